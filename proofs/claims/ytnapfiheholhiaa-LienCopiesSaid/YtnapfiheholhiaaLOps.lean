/-
  What the program's calls do to liens: set, Free, May, Rank, Copy's parts. Conditions: none.
-/
import Derived.Test.YtnapfiheholhiaaLPl
set_option linter.unusedVariables false
set_option linter.unusedSimpArgs false
namespace Go.Proofs.Ytnapfiheholhiaa
open Go Go.RowKit Go.Proofs.YtnapfiheholhiaaSym

/-- What was known of old blocks stands: only the new ones count. -/
theorem St.quietN {W0 w : World} {olds : List Nat} {ln l : List (Nat × Obj)} (h : St W0 olds (ln ++ l) w) (hown : ∀ x ∈ l, W0.heap[x.1]? = some x.2) (hk : ∀ k ∈ olds, k ∈ l.map (·.1)) : St W0 [] ln w := by
  have hb : Below W0.heap.size W0 w := (h.sub (List.sublist_append_right _ _)).quietO hown hk
  refine ⟨hb.os, hb.tape, hb.output, hb.size, fun k hlt _ => hb.block k hlt, fun x hx => h.own x (List.mem_append_left _ hx), fun x hx hlt => ?_, ?_⟩
  · exfalso
    have h1 := hk _ (h.new x (List.mem_append_left _ hx) hlt)
    have h2 := h.nodup
    rw [List.map_append, List.nodup_append] at h2
    exact h2.2.2 _ (List.mem_map_of_mem hx) _ h1 rfl
  · have h2 := h.nodup
    rw [List.map_append, List.nodup_append] at h2
    exact h2.1

set_option maxHeartbeats 1000000 in
theorem set_calls {p : Nat} {m m' : List Pledge} {l lr : List (Nat × Obj)} (hL : Lien p m l) {t : ByteArray} {vr : Value} {ps : List Pledge} (ho : Own 6 encPledge 37 vr ps lr) (hm : ∀ u, rowOf m' u = if u = t then ps else rowOf m u) (hD' : Doc m') (w : World) (hown : ∀ x ∈ l ++ lr, w.heap[x.1]? = some x.2) (hnd : ((l ++ lr).map (·.1)).Nodup) :
    Does Try.prog 31 [.pointer (some ⟨p, 0, none⟩), .string t, vr] w (RetO w (l ++ lr) fun v l' => v = .tuple #[] ∧ Lien p m' l') := by
  obtain ⟨bm, mo, R, rfl, hM, hR, hD⟩ := hL
  obtain ⟨a, c, rfl, _⟩ := ho.shape
  refine calls_J (ys := [.pointer (some ⟨p, 0, none⟩), .string t, .slice a ps.length c]) Try.func31 rfl Try.ntmps31 rfl ?_
  refine J.at_ ?_ (St.startO hown hnd)
  obtain ⟨olds, holds⟩ : ∃ o, o = ((LienO p bm mo R) ++ lr).map (·.1) := ⟨_, rfl⟩
  rw [← holds]
  unfold LienO
  by_cases hps : ps = []
  · subst hps
    obtain ⟨R', hR', hkv, hblk⟩ := hR.del (m' := m') (t := t) hm
    repeat' (first
      | refine JE.pure rfl rfl (by conv => lhs; whnf) rfl ?_
      | (refine JE.kBin ?_; (refine JE.int rfl rfl rfl rfl rfl rfl ?_; with_reducible refine JE.waysD (fun _ => ?_) (fun _ => ?_)))
      | (refine JE.kField ?_; refine JE.fieldAddr rfl rfl rfl ?_)
      | (refine JE.kNil ?_; refine JE.nilCheck rfl rfl rfl ?_)
      | (refine JE.kLoad ?_; refine JE.load1 rfl rfl (by repeat (first | exact In.head | refine In.tail ?_ | refine In.app ?_)) rfl (by conv => lhs; whnf) (fun _ => by first | trivial | exact ⟨.inr ‹_›, trivial⟩ | exact ⟨.inl (by kernel_rfl), trivial⟩ | exact ⟨.inr ‹_›, .inr ‹_›, trivial⟩ | exact ⟨.inr ‹_›, .inl (by kernel_rfl), trivial⟩ | exact ⟨.inl (by kernel_rfl), .inr ‹_›, trivial⟩ | exact ⟨.inl (by kernel_rfl), .inl (by kernel_rfl), trivial⟩) rfl ?_)
      | (refine JE.kBuiltin ?_; refine JE.lenSl rfl rfl rfl ?_)
      | with_reducible refine JE.sN ?_
      | with_reducible refine J.seq ?_
      | with_reducible refine J.region ?_
      | refine J.condT rfl ?_
      | refine J.condF rfl ?_
      | with_reducible refine J.skip ?_
      | with_reducible refine J.ret ?_
      | with_reducible refine JX.thenN ?_
      | with_reducible refine JX.thenR ?_
      | (refine JE.kBuiltin ?_; refine JE.deleteMap (encK := Value.string) (encV := encSV) (k := t) rfl rfl rfl (by repeat (first | exact In.head | refine In.tail ?_ | refine In.app ?_)) hM trivial rfl (fun mo' hM' => ⟨_, (by repeat (first | exact Turn.head | apply Turn.tail | apply Turn.app)), ?_⟩)))
    all_goals first
      | (exfalso; omega)
      | contradiction
      | (refine fnQ_none (.inl rfl) rfl fun w'' hS' => ⟨_, LienO p bm mo' R', rfl, ⟨rfl, bm, mo', R', rfl, hkv ▸ hM', hR', hD'⟩, holds ▸ hS'.sub ?_⟩
         unfold LienO
         rw [hblk]
         refine (((List.Sublist.trans ?_ (List.sublist_append_left _ lr))).cons_cons _).cons_cons _
         exact List.filter_sublist.map _)
  · obtain ⟨B, cap, cur, e, hoc, rfl⟩ := own_some ho hps
    cases e
    obtain ⟨R', hR', hkv, hpm⟩ := hR.put (m' := m') (t := t) hps (B := B) hoc hm
    have hlen : 0 < ps.length := List.length_pos_iff.2 hps
    repeat' (first
      | refine JE.pure rfl rfl (by conv => lhs; whnf) rfl ?_
      | (refine JE.kBin ?_; (refine JE.int rfl rfl rfl rfl rfl rfl ?_; with_reducible refine JE.waysD (fun _ => ?_) (fun _ => ?_)))
      | (refine JE.kField ?_; refine JE.fieldAddr rfl rfl rfl ?_)
      | (refine JE.kNil ?_; refine JE.nilCheck rfl rfl rfl ?_)
      | (refine JE.kLoad ?_; refine JE.load1 rfl rfl (by repeat (first | exact In.head | refine In.tail ?_ | refine In.app ?_)) rfl (by conv => lhs; whnf) (fun _ => by first | trivial | exact ⟨.inr ‹_›, trivial⟩ | exact ⟨.inl (by kernel_rfl), trivial⟩ | exact ⟨.inr ‹_›, .inr ‹_›, trivial⟩ | exact ⟨.inr ‹_›, .inl (by kernel_rfl), trivial⟩ | exact ⟨.inl (by kernel_rfl), .inr ‹_›, trivial⟩ | exact ⟨.inl (by kernel_rfl), .inl (by kernel_rfl), trivial⟩) rfl ?_)
      | (refine JE.kBuiltin ?_; refine JE.lenSl rfl rfl rfl ?_)
      | with_reducible refine JE.sN ?_
      | with_reducible refine JE.sX ?_
      | with_reducible refine J.seq ?_
      | with_reducible refine J.region ?_
      | refine J.condT rfl ?_
      | refine J.condF rfl ?_
      | with_reducible refine J.skip ?_
      | with_reducible refine JX.thenN ?_
      | (refine JE.kUpdate ?_; refine JE.mapUpdate (encK := Value.string) (encV := encSV) (k := t) (v := (B, ps.length, c)) rfl rfl rfl rfl (by repeat (first | exact In.head | refine In.tail ?_ | refine In.app ?_)) hM trivial rfl (fun mo' hM' => ⟨_, (by repeat (first | exact Turn.head | apply Turn.tail | apply Turn.app)), ?_⟩)))
    all_goals first
      | (exfalso; omega)
      | contradiction
      | (refine fnQ_none (.inr rfl) rfl fun w'' hS' => ⟨_, LienO p bm mo' R', rfl, ⟨rfl, bm, mo', R', rfl, hkv ▸ hM', hR', hD'⟩, holds ▸ St.perm (l := (p, cel [.map (some bm)] 60) :: (bm, mo') :: ((R.filter fun x => decide (x.thing ≠ t)).map rowBlk ++ [(B, .cells cur 37 (0, 0))])) (hS'.sub ?_) ?_⟩
         · exact ((List.Sublist.append_right (List.filter_sublist.map _) _).cons_cons _).cons_cons _
         · exact (((List.perm_append_comm.trans (by exact .refl _)).trans hpm.symm).cons _).cons _)

theorem free_calls {p : Nat} {m : List Pledge} {l : List (Nat × Obj)} (hL : Lien p m l) (t : ByteArray) (w : World) (hown : ∀ x ∈ l, w.heap[x.1]? = some x.2) (hnd : (l.map (·.1)).Nodup) :
    Does Try.prog 16 [.pointer (some ⟨p, 0, none⟩), .string t] w (Ret w (.bool (decide (rowOf m t = [])))) := by
  obtain ⟨bm, mo, R, rfl, hM, hR, hD⟩ := hL
  obtain ⟨v, ln, hlk, ho, hperm, hnil⟩ := hR.look t
  obtain ⟨a, c, rfl, _⟩ := ho.shape
  refine calls_J (ys := [.pointer (some ⟨p, 0, none⟩), .string t]) Try.func16 rfl Try.ntmps16 rfl ?_
  refine J.at_ ?_ (St.startO hown hnd)
  repeat' (first
    | refine JE.pure rfl rfl (by conv => lhs; whnf) rfl ?_
    | (refine JE.kBin ?_; (refine JE.int rfl rfl rfl rfl rfl rfl ?_; with_reducible refine JE.waysD (fun _ => ?_) (fun _ => ?_)))
    | (refine JE.kField ?_; refine JE.fieldAddr rfl rfl rfl ?_)
    | (refine JE.kNil ?_; refine JE.nilCheck rfl rfl rfl ?_)
    | (refine JE.kLoad ?_; refine JE.load1 rfl rfl (by repeat (first | exact In.head | refine In.tail ?_ | refine In.app ?_)) rfl (by conv => lhs; whnf) (fun _ => by first | trivial | exact ⟨.inr ‹_›, trivial⟩ | exact ⟨.inl (by kernel_rfl), trivial⟩ | exact ⟨.inr ‹_›, .inr ‹_›, trivial⟩ | exact ⟨.inr ‹_›, .inl (by kernel_rfl), trivial⟩ | exact ⟨.inl (by kernel_rfl), .inr ‹_›, trivial⟩ | exact ⟨.inl (by kernel_rfl), .inl (by kernel_rfl), trivial⟩) rfl ?_)
    | (refine JE.kBuiltin ?_; refine JE.lenSl rfl rfl rfl ?_)
    | with_reducible refine JE.sN ?_
    | with_reducible refine J.seq ?_
    | with_reducible refine J.region ?_
    | with_reducible refine J.ret ?_
    | (refine JE.kLookup ?_; refine JE.lookupV (encK := Value.string) (encV := encSV) (k := t) rfl rfl rfl (.tail .head) hM hlk (fun _ => by first | trivial | exact ⟨.inr ‹_›, trivial⟩ | exact ⟨.inl (by kernel_rfl), trivial⟩ | exact ⟨.inr ‹_›, .inr ‹_›, trivial⟩ | exact ⟨.inr ‹_›, .inl (by kernel_rfl), trivial⟩ | exact ⟨.inl (by kernel_rfl), .inr ‹_›, trivial⟩ | exact ⟨.inl (by kernel_rfl), .inl (by kernel_rfl), trivial⟩) rfl ?_))
  all_goals (refine fnQ_tmp (.inl rfl) rfl (by conv => lhs; whnf) fun w'' hS' => ⟨?_, hS'.quietO hown fun k hk => hk⟩; rename_i hc)
  · have : rowOf m t = [] := List.length_eq_zero_iff.1 (by omega)
    simp [this]
  · have : rowOf m t ≠ [] := fun e => hc (by rw [e]; rfl)
    simp [this]

theorem clone_calls {v : Value} {xs : List Pledge} {ln : List (Nat × Obj)} (ho : Own 6 encPledge 37 v xs ln) (hx : xs.length ≤ 4096) (w : World) (hown : ∀ x ∈ ln, w.heap[x.1]? = some x.2) :
    Does Try.prog 25 [v] w (RetN w fun u ln' => Own 6 encPledge 37 u xs ln') := by
  have hsl := ho.sl encP_len hown
  rcases ho with ⟨rfl, rfl, rfl⟩ | ⟨B, cap, cur, rfl, ho, rfl⟩
  · skip
    refine calls_J (ys := [.slice none 0 0]) Try.func25 rfl Try.ntmps25 rfl ?_
    refine J.at_ (S := St w [] []) ?_ (St.start w)
    repeat' (first
      | refine JE.pure rfl rfl (by conv => lhs; whnf) rfl ?_
      | (refine JE.kBin ?_; refine JE.eqNilSl rfl rfl rfl rfl ?_)
      | with_reducible refine JE.sN ?_
      | with_reducible refine J.seq ?_
      | with_reducible refine J.region ?_
      | refine J.condT rfl ?_
      | with_reducible refine J.ret ?_
      | with_reducible refine JX.thenR ?_)
    all_goals exact fnQ_tmp (.inl rfl) rfl (by conv => lhs; whnf) fun w'' hS' => ⟨_, _, rfl, Own.nil, hS'⟩
  · skip
    refine calls_J (ys := [.slice (some ⟨B, 0, none⟩) xs.length cap]) Try.func25 rfl Try.ntmps25 rfl ?_
    refine J.at_ (S := St w [] []) ?_ (St.start w)
    repeat' (first
      | refine JE.pure rfl rfl (by conv => lhs; whnf) rfl ?_
      | (refine JE.kBin ?_; refine JE.eqNilSl rfl rfl rfl rfl ?_)
      | with_reducible refine JE.sN ?_
      | with_reducible refine J.seq ?_
      | with_reducible refine J.region ?_
      | refine J.condF rfl ?_
      | with_reducible refine J.skip ?_
      | with_reducible refine J.ret ?_
      | with_reducible refine JX.thenN ?_
      | (refine JE.kBuildSlice ?_; refine JE.buildSlice0 rfl rfl (fun _ _ => ?_))
      | (refine JE.kBuiltin ?_; refine JE.appendOwn rfl rfl rfl ((Own.empty (k := 6) (enc := encPledge))) (by repeat (first | exact Seg.head | exact Seg.all | exact Seg.one | apply Seg.tail | apply Seg.cons)) (fun _ => rfl) (fun _ => rfl) (fun w hS => hsl.below hS.below) (by (try simp only [List.length_cons, List.length_nil, List.length_append, List.length_drop, List.length_take, maxLen] at *); omega) (by (try simp only [List.length_cons, List.length_nil, List.length_append, List.length_drop, List.length_take, maxLen] at *); omega) (fun _ _ _ _ => trivial) rfl (fun _ _ _ => ?_)))
    all_goals (rename_i ho2; exact fnQ_tmp (.inl rfl) rfl (by conv => lhs; whnf) fun w'' hS' => ⟨_, _, rfl, ho2, hS'.sub (by repeat (first | exact List.Sublist.refl _ | exact List.nil_sublist _ | refine List.Sublist.append_left ?_ _ | exact List.sublist_append_left _ _ | apply List.Sublist.cons_cons | apply List.Sublist.cons | apply List.sublist_append_of_sublist_right))⟩)

set_option maxHeartbeats 1000000 in
theorem rank_calls {p : Nat} {m : List Pledge} {l : List (Nat × Obj)} (hL : Lien p m l) (t : ByteArray) (hmost : (rowOf m t).length ≤ sortMost) (w : World) (hown : ∀ x ∈ l, w.heap[x.1]? = some x.2) (hnd : (l.map (·.1)).Nodup) :
    Does Try.prog 13 [.pointer (some ⟨p, 0, none⟩), .string t] w (RetN w fun u ln' => Own 6 encPledge 37 u (rank26 m t) ln') := by
  obtain ⟨bm, mo, R, rfl, hM, hR, hD⟩ := hL
  obtain ⟨v, ln, hlk, ho, hperm, hnil⟩ := hR.look t
  have hrl : (rowOf m t).length ≤ 4096 := Nat.le_trans (rowOf_length m t) hD.size
  refine calls_J (ys := [.pointer (some ⟨p, 0, none⟩), .string t]) Try.func13 rfl Try.ntmps13 rfl ?_
  refine J.at_ ?_ (St.startO hown hnd)
  obtain ⟨olds, holds⟩ : ∃ o, o = (LienO p bm mo R).map (·.1) := ⟨_, rfl⟩
  rw [← holds]
  refine J.perm (l' := (p, cel [.map (some bm)] 60) :: (bm, mo) :: (ln ++ _)) ((hperm.cons _).cons _) ?_
  repeat' (first
    | refine JE.pure rfl rfl (by conv => lhs; whnf) rfl ?_
    | (refine JE.kField ?_; refine JE.fieldAddr rfl rfl rfl ?_)
    | (refine JE.kNil ?_; refine JE.nilCheck rfl rfl rfl ?_)
    | (refine JE.kLoad ?_; refine JE.load1 rfl rfl (by repeat (first | exact In.head | refine In.tail ?_ | refine In.app ?_)) rfl (by conv => lhs; whnf) (fun _ => by first | trivial | exact ⟨.inr ‹_›, trivial⟩ | exact ⟨.inl (by kernel_rfl), trivial⟩ | exact ⟨.inr ‹_›, .inr ‹_›, trivial⟩ | exact ⟨.inr ‹_›, .inl (by kernel_rfl), trivial⟩ | exact ⟨.inl (by kernel_rfl), .inr ‹_›, trivial⟩ | exact ⟨.inl (by kernel_rfl), .inl (by kernel_rfl), trivial⟩) rfl ?_)
    | with_reducible refine JE.sN ?_
    | with_reducible refine J.seq ?_
    | with_reducible refine J.region ?_
    | with_reducible refine J.ret ?_
    | (refine JE.kLookup ?_; refine JE.lookupV (encK := Value.string) (encV := encSV) (k := t) rfl rfl rfl (.tail .head) hM hlk (fun _ => by first | trivial | exact ⟨.inr ‹_›, trivial⟩ | exact ⟨.inl (by kernel_rfl), trivial⟩ | exact ⟨.inr ‹_›, .inr ‹_›, trivial⟩ | exact ⟨.inr ‹_›, .inl (by kernel_rfl), trivial⟩ | exact ⟨.inl (by kernel_rfl), .inr ‹_›, trivial⟩ | exact ⟨.inl (by kernel_rfl), .inl (by kernel_rfl), trivial⟩) rfl ?_)
    | (refine JE.isF 25 ?_; refine JE.call rfl rfl (by repeat (first | exact NfL.nil rfl | apply NfL.cons (by exact rfl) (by conv => lhs; whnf))) rfl ?_; refine CallG.news (G := _) (fun w hS => clone_calls ho hrl w (hS.owns (by repeat (first | exact Seg.head | exact Seg.all | exact Seg.one | apply Seg.tail | apply Seg.cons)))) ?_; rintro v2 l2 ho2)
    | (refine JE.isF 26 ?_; refine JE.call rfl rfl (by repeat (first | exact NfL.nil rfl | apply NfL.cons (by exact rfl) (by conv => lhs; whnf))) rfl ?_; refine CallG.obj (ln := l2) (G := _) (by repeat (first | exact Seg.head | exact Seg.all | exact Seg.one | apply Seg.tail | apply Seg.cons)) (fun w hS => sort_calls w ho2 (hS.owns (by repeat (first | exact Seg.head | exact Seg.all | exact Seg.one | apply Seg.tail | apply Seg.cons))) hmost) (fun _ _ _ _ => trivial) ?_; rintro _ l3 ⟨rfl, ho3⟩))
  all_goals exact fnQ_tmp (.inl rfl) rfl (by conv => lhs; whnf) fun w'' hS' => ⟨_, _, rfl, ho3, St.quietN (hS'.perm ((((hperm.symm.cons _).cons _)).append_left l3)) hown (fun k hk => holds ▸ hk)⟩

end Go.Proofs.Ytnapfiheholhiaa
