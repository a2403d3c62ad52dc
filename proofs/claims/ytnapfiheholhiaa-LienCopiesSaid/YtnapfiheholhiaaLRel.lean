/-
  What the program's calls do to liens: Release. Conditions: none.
-/
import Derived.Test.YtnapfiheholhiaaLDel
set_option linter.unusedVariables false
set_option linter.unusedSimpArgs false
namespace Go.Proofs.Ytnapfiheholhiaa
open Go Go.RowKit Go.Proofs.YtnapfiheholhiaaSym

theorem rel_none {m : List Pledge} {t c : ByteArray} (h : ∀ x ∈ rowOf m t, x.creditor ≠ c) : rel26 m t c = m ∧ relCode m t c = 4 := by
  have e : rel26 m t c = m := List.filter_eq_self.2 fun x hx => by
    by_cases ht : x.thing = t
    · have := h x (rowOf_mem.2 ⟨hx, ht⟩)
      simp [stays, this]
    · simp [stays, ht]
  exact ⟨e, by rw [relCode, if_pos (by rw [e])]⟩
theorem rel_some {m : List Pledge} (hd : Doc m) {t c : ByteArray} {k : Nat} {y : Pledge} (hk : (rowOf m t)[k]? = some y) (hy : y.creditor = c) : (rowOf m t).filter (fun x => decide (x.creditor ≠ c)) = (rowOf m t).eraseIdx k ∧ relCode m t c = 0 := by
  have hp := hd.rowCreditor t
  have hmem : y ∈ rowOf m t := List.mem_of_getElem? hk
  have hym := rowOf_mem.1 hmem
  refine ⟨?_, ?_⟩
  · generalize rowOf m t = row at hk hp
    obtain ⟨hlt, rfl⟩ := List.getElem?_eq_some_iff.1 hk
    have e1 : row = row.take k ++ row[k] :: row.drop (k + 1) := by
      conv => lhs; rw [← List.take_append_drop k row]
      rw [List.drop_eq_getElem_cons hlt]
    rw [List.eraseIdx_eq_take_drop_succ]
    rw [e1, List.pairwise_append] at hp
    obtain ⟨_, hp2, hp3⟩ := hp
    rw [List.pairwise_cons] at hp2
    conv => lhs; rw [e1]
    rw [List.filter_append, List.filter_cons_of_neg (by simp [hy]), List.filter_eq_self.2 fun x hx => ?_, List.filter_eq_self.2 fun x hx => ?_]
    · have := hp2.1 x hx
      simp only [decide_eq_true_eq]
      rw [← hy]; exact fun e => this e.symm
    · have := hp3 x hx _ List.mem_cons_self
      simp only [decide_eq_true_eq]
      rw [← hy]; exact this
  · rw [relCode, if_neg]
    intro e
    have := List.length_filter_eq_length_iff.1 e y hym.1
    simp [stays, hym.2, hy] at this

set_option maxHeartbeats 2000000 in
theorem release_calls {p : Nat} {m : List Pledge} {l : List (Nat × Obj)} (hL : Lien p m l) (t c : ByteArray) (w : World) (hown : ∀ x ∈ l, w.heap[x.1]? = some x.2) (hnd : (l.map (·.1)).Nodup) :
    Does Try.prog 17 [.pointer (some ⟨p, 0, none⟩), .string t, .string c] w (RetO w l fun v l' => v = .int .i64 (relCode m t c) ∧ Lien p (rel26 m t c) l') := by
  have hL0 := hL
  obtain ⟨bm, mo, R, rfl, hM, hR, hD⟩ := hL
  obtain ⟨v, ln, hlk, ho, hperm, hnil⟩ := hR.look t
  obtain ⟨rest, hrest⟩ : ∃ rest, rest = (R.filter fun y => decide (y.thing ≠ t)).map rowBlk := ⟨_, rfl⟩
  rw [← hrest] at hperm
  have hrl : (rowOf m t).length ≤ 4096 := Nat.le_trans (rowOf_length m t) hD.size
  have hset := fun (vr : Value) (lr : List (Nat × Obj)) (ps : List Pledge) ho hm w => set_calls (m' := rel26 m t c) (t := t) (vr := vr) (ps := ps) (lr := lr) hL0 ho hm (hD.rel t c) w
  have hidx := fun bc w hb hl => IndexFuncP_calls 51 [.pointer (some ⟨bc, 0, none⟩)] (fun y => decide (y.creditor = c)) v (rowOf m t) w (fun q w' hb' => ofF_calls q c bc w' (below_get hb' hb)) (ho.sl encP_len hl) (by omega)
  refine calls_J (ys := [.pointer (some ⟨p, 0, none⟩), .string t, .string c]) Try.func17 rfl Try.ntmps17 rfl ?_
  refine J.at_ ?_ (St.startO hown hnd)
  obtain ⟨olds, holds⟩ : ∃ o, o = (LienO p bm mo R).map (·.1) := ⟨_, rfl⟩
  rw [← holds]
  refine J.perm (l' := (p, cel [.map (some bm)] 60) :: (bm, mo) :: (ln ++ rest)) ((hperm.cons _).cons _) ?_
  have hback : ∀ w', St w olds ((p, cel [.map (some bm)] 60) :: (bm, mo) :: (ln ++ rest)) w' → St w olds (LienO p bm mo R) w' := fun w' hS => hS.perm ((hperm.symm.cons _).cons _)
  cases hf : (rowOf m t).findIdx? (fun y => decide (y.creditor = c)) with
  | none =>
    have hi : idxP (fun y => decide (y.creditor = c)) (rowOf m t) = -1 := by simp [idxP, hf]
    rw [hi] at hidx
    have hn := rel_none (m := m) (t := t) (c := c) fun x hx => by
      have := (List.findIdx?_eq_none_iff.1 hf) x hx
      simpa using this
    repeat' (first
      | refine JE.pure rfl rfl (by conv => lhs; whnf) rfl ?_
      | (refine JE.kBin ?_; (refine JE.int rfl rfl rfl rfl rfl rfl ?_; with_reducible refine JE.waysD (fun _ => ?_) (fun _ => ?_)))
      | (refine JE.kField ?_; refine JE.fieldAddr rfl rfl rfl ?_)
      | (refine JE.kNil ?_; refine JE.nilCheck rfl rfl rfl ?_)
      | (refine JE.kLoad ?_; refine JE.load1 rfl rfl (by repeat (first | exact In.head | refine In.tail ?_ | refine In.app ?_)) rfl (by conv => lhs; whnf) (fun _ => by first | trivial | exact ⟨.inr ‹_›, trivial⟩ | exact ⟨.inl (by kernel_rfl), trivial⟩ | exact ⟨.inr ‹_›, .inr ‹_›, trivial⟩ | exact ⟨.inr ‹_›, .inl (by kernel_rfl), trivial⟩ | exact ⟨.inl (by kernel_rfl), .inr ‹_›, trivial⟩ | exact ⟨.inl (by kernel_rfl), .inl (by kernel_rfl), trivial⟩) rfl ?_)
      | with_reducible refine JE.sN ?_
      | with_reducible refine J.seq ?_
      | with_reducible refine J.region ?_
      | refine J.condT rfl ?_
      | refine J.condF rfl ?_
      | with_reducible refine J.skip ?_
      | with_reducible refine J.ret ?_
      | with_reducible refine JX.thenN ?_
      | with_reducible refine JX.thenR ?_
      | (refine JE.kLookup ?_; refine JE.lookupV (encK := Value.string) (encV := encSV) (k := t) rfl rfl rfl (.tail .head) hM hlk (fun _ => by first | trivial | exact ⟨.inr ‹_›, trivial⟩ | exact ⟨.inl (by kernel_rfl), trivial⟩ | exact ⟨.inr ‹_›, .inr ‹_›, trivial⟩ | exact ⟨.inr ‹_›, .inl (by kernel_rfl), trivial⟩ | exact ⟨.inl (by kernel_rfl), .inr ‹_›, trivial⟩ | exact ⟨.inl (by kernel_rfl), .inl (by kernel_rfl), trivial⟩) rfl ?_)
      | (refine JE.isF 33 ?_; refine JE.call rfl rfl (by repeat (first | exact NfL.nil rfl | apply NfL.cons (by exact rfl) (by conv => lhs; whnf))) rfl ?_; refine CallG.retNew (v := fun B => .func (.func 51) #[] #[.pointer (some ⟨B, 0, none⟩)]) (o := fun _ => cel [.string c] 9) (fun w hS => of_calls _ w) (fun bc hbc => ?_))
      | (refine JE.isF 32 ?_; refine JE.call rfl rfl (by repeat (first | exact NfL.nil rfl | apply NfL.cons (by exact rfl) (by conv => lhs; whnf))) rfl ?_; refine CallG.ret (fun w hS => hidx bc w (hS.get .head) (hS.owns (by repeat (first | exact Seg.head | exact Seg.all | exact Seg.one | apply Seg.tail | apply Seg.cons)))) ?_))
    all_goals first
      | (exfalso; omega)
      | contradiction
      | (refine fnQ_tmp (.inl rfl) rfl (by conv => lhs; whnf) fun w'' hS' => ⟨_, LienO p bm mo R, rfl, ⟨by rw [hn.2], by rw [hn.1]; exact hL0⟩, holds ▸ hback w'' (hS'.sub (by repeat (first | exact List.Sublist.refl _ | exact List.nil_sublist _ | refine List.Sublist.append_left ?_ _ | exact List.sublist_append_left _ _ | apply List.Sublist.cons_cons | apply List.Sublist.cons | apply List.sublist_append_of_sublist_right)))⟩)
  | some k =>
    have hi : idxP (fun y => decide (y.creditor = c)) (rowOf m t) = (k : Int) := by simp [idxP, hf]
    rw [hi] at hidx
    obtain ⟨hlt, hq, _⟩ := List.findIdx?_eq_some_iff_getElem.1 hf
    have hn := rel_some hD (List.getElem?_eq_getElem hlt) (by simpa using hq)
    have hrow' : ∀ u, rowOf (rel26 m t c) u = if u = t then (rowOf m t).eraseIdx k else rowOf m u := fun u => by rw [rowOf_rel, hn.1]
    repeat' (first
      | refine JE.pure rfl rfl (by conv => lhs; whnf) rfl ?_
      | (refine JE.kBin ?_; (refine JE.int rfl rfl rfl rfl rfl rfl ?_; with_reducible refine JE.waysD (fun _ => ?_) (fun _ => ?_)))
      | (refine JE.kBin ?_; refine JE.int rfl rfl rfl rfl (by rw [i64_id (by omega)]) rfl ?_)
      | (refine JE.kField ?_; refine JE.fieldAddr rfl rfl rfl ?_)
      | (refine JE.kNil ?_; refine JE.nilCheck rfl rfl rfl ?_)
      | (refine JE.kLoad ?_; refine JE.load1 rfl rfl (by repeat (first | exact In.head | refine In.tail ?_ | refine In.app ?_)) rfl (by conv => lhs; whnf) (fun _ => by first | trivial | exact ⟨.inr ‹_›, trivial⟩ | exact ⟨.inl (by kernel_rfl), trivial⟩ | exact ⟨.inr ‹_›, .inr ‹_›, trivial⟩ | exact ⟨.inr ‹_›, .inl (by kernel_rfl), trivial⟩ | exact ⟨.inl (by kernel_rfl), .inr ‹_›, trivial⟩ | exact ⟨.inl (by kernel_rfl), .inl (by kernel_rfl), trivial⟩) rfl ?_)
      | with_reducible refine JE.sN ?_
      | with_reducible refine J.seq ?_
      | with_reducible refine J.region ?_
      | refine J.condT rfl ?_
      | refine J.condF rfl ?_
      | with_reducible refine J.skip ?_
      | with_reducible refine J.ret ?_
      | with_reducible refine JX.thenN ?_
      | with_reducible refine JX.thenR ?_
      | (refine JE.kLookup ?_; refine JE.lookupV (encK := Value.string) (encV := encSV) (k := t) rfl rfl rfl (.tail .head) hM hlk (fun _ => by first | trivial | exact ⟨.inr ‹_›, trivial⟩ | exact ⟨.inl (by kernel_rfl), trivial⟩ | exact ⟨.inr ‹_›, .inr ‹_›, trivial⟩ | exact ⟨.inr ‹_›, .inl (by kernel_rfl), trivial⟩ | exact ⟨.inl (by kernel_rfl), .inr ‹_›, trivial⟩ | exact ⟨.inl (by kernel_rfl), .inl (by kernel_rfl), trivial⟩) rfl ?_)
      | (refine JE.isF 33 ?_; refine JE.call rfl rfl (by repeat (first | exact NfL.nil rfl | apply NfL.cons (by exact rfl) (by conv => lhs; whnf))) rfl ?_; refine CallG.retNew (v := fun B => .func (.func 51) #[] #[.pointer (some ⟨B, 0, none⟩)]) (o := fun _ => cel [.string c] 9) (fun w hS => of_calls _ w) (fun bc hbc => ?_))
      | (refine JE.isF 32 ?_; refine JE.call rfl rfl (by repeat (first | exact NfL.nil rfl | apply NfL.cons (by exact rfl) (by conv => lhs; whnf))) rfl ?_; refine CallG.ret (fun w hS => hidx bc w (hS.get .head) (hS.owns (by repeat (first | exact Seg.head | exact Seg.all | exact Seg.one | apply Seg.tail | apply Seg.cons)))) ?_)
      | (refine JE.isF 25 ?_; refine JE.call rfl rfl (by repeat (first | exact NfL.nil rfl | apply NfL.cons (by exact rfl) (by conv => lhs; whnf))) rfl ?_; refine CallG.news (G := _) (fun w hS => clone_calls ho hrl w (hS.owns (by repeat (first | exact Seg.head | exact Seg.all | exact Seg.one | apply Seg.tail | apply Seg.cons)))) ?_; rintro v2 l2 ho2)
      | (refine JE.isF 34 ?_; refine JE.call rfl rfl (by repeat (first | exact NfL.nil rfl | apply NfL.cons (by exact rfl) (by conv => lhs; whnf))) rfl ?_; refine CallG.obj (ln := l2) (G := _) (by repeat (first | exact Seg.head | exact Seg.all | exact Seg.one | apply Seg.tail | apply Seg.cons)) (fun w hS => delete_calls ho2 hrl hlt w (hS.owns (by repeat (first | exact Seg.head | exact Seg.all | exact Seg.one | apply Seg.tail | apply Seg.cons)))) (fun _ _ _ _ => trivial) ?_; rintro v3 l3 ho3)
      | (refine JE.isF 31 ?_; refine JE.perm (l' := (LienO p bm mo R ++ l3) ++ [(bc, cel [.string c] 9)]) ((((((hperm.symm.cons (bm, mo)).cons (p, cel [.map (some bm)] 60)).cons (bc, cel [.string c] 9)).append_left l3).trans List.perm_append_comm).trans (List.perm_append_singleton _ _).symm) ?_; refine JE.call rfl rfl (by repeat (first | exact NfL.nil rfl | apply NfL.cons (by exact rfl) (by conv => lhs; whnf))) rfl ?_; refine CallG.obj (ln := LienO p bm mo R ++ l3) (G := _) .head (fun w hS => hset v3 l3 _ ho3 hrow' w (hS.owns .head) (hS.dist .head)) (fun _ _ _ _ => trivial) ?_; rintro _ l4 ⟨rfl, hL4⟩))
    all_goals first
      | (exfalso; omega)
      | contradiction
      | (refine fnQ_tmp (.inl rfl) rfl (by conv => lhs; whnf) fun w'' hS' => ⟨_, l4, rfl, ⟨by rw [hn.2], hL4⟩, holds ▸ hS'.sub (by repeat (first | exact List.Sublist.refl _ | exact List.nil_sublist _ | refine List.Sublist.append_left ?_ _ | exact List.sublist_append_left _ _ | apply List.Sublist.cons_cons | apply List.Sublist.cons | apply List.sublist_append_of_sublist_right))⟩)

end Go.Proofs.Ytnapfiheholhiaa
