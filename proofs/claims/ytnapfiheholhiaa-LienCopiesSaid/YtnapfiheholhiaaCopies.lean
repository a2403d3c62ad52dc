/-
  The walk of the statement LienCopies. Conditions: none.
-/
import Derived.Test.YtnapfiheholhiaaEven
import Derived.Test.YtnapfiheholhiaaLCopy
set_option linter.unusedVariables false
set_option linter.unusedSimpArgs false
namespace Go.Proofs.Ytnapfiheholhiaa
open Go Go.RowKit Go.Proofs.YtnapfiheholhiaaSym

set_option maxRecDepth 100000 in
set_option maxHeartbeats 16000000 in
theorem Copies_calls (v : Value) (ds : List Deed) (v2 : Value) (es : List Deed) (t who : ByteArray) (w : World) (hs : Sl 8 encDeed w v ds) (hx : ds.length ≤ 9223372036854775807) (hs2 : Sl 8 encDeed w v2 es) (hx2 : es.length ≤ 9223372036854775807) :
    Does Try.prog 9 [v, v2, .string t, .string who] w (Ret w (.bool true)) := by
  have hheavy := fun w hs => heavy_calls v ds 16 w hs hx
  have hheavy2 := fun w hs => heavy_calls v2 es 8 w hs hx2
  have hs0 := hs
  have hs20 := hs2
  obtain ⟨a, cp, rfl, hs⟩ := hs
  obtain ⟨a2, cp2, rfl, hs2⟩ := hs2
  refine calls_J (ys := [.slice a ds.length cp, .slice a2 es.length cp2, .string t, .string who]) Try.func9 rfl Try.ntmps9 rfl ?_
  refine J.at_ (S := St w [] []) ?_ (St.start w)
  by_cases hhh : heavyB ds 16 = true ∨ heavyB es 8 = true
  · cases hh : heavyB ds 16 <;> cases hh2 : heavyB es 8
    all_goals rw [hh] at hheavy
    all_goals rw [hh2] at hheavy2
    · rw [hh, hh2] at hhh; simp at hhh
    all_goals skip
    repeat' (first
      | refine JE.pure rfl rfl (by conv => lhs; whnf) rfl ?_
      | refine JE.skip rfl rfl ?_
      | with_reducible refine JE.sN ?_
      | with_reducible refine J.seq ?_
      | with_reducible refine J.region ?_
      | refine J.condT rfl ?_
      | refine J.condF rfl ?_
      | with_reducible refine J.skip ?_
      | with_reducible refine J.ret ?_
      | with_reducible refine JX.thenN ?_
      | with_reducible refine JX.thenR ?_
      | (refine JE.isF 10 ?_; refine JE.call rfl rfl (by repeat (first | exact NfL.nil rfl | apply NfL.cons (by exact rfl) (by conv => lhs; whnf))) rfl ?_; refine CallG.ret (fun w hS => awake_calls w) ?_)
      | (refine JE.isF 11 ?_; refine JE.call rfl rfl (by repeat (first | exact NfL.nil rfl | apply NfL.cons (by exact rfl) (by conv => lhs; whnf))) rfl ?_; refine CallG.ret (fun w hS => hheavy w (hs0.below hS.below)) ?_)
      | (refine JE.isF 11 ?_; refine JE.call rfl rfl (by repeat (first | exact NfL.nil rfl | apply NfL.cons (by exact rfl) (by conv => lhs; whnf))) rfl ?_; refine CallG.ret (fun w hS => hheavy2 w (hs20.below hS.below)) ?_))
    all_goals exact fnQ_tmp (.inl rfl) rfl (by conv => lhs; whnf) fun w'' hS' => ⟨rfl, hS'.below⟩
  have hh : heavyB ds 16 = false := by cases h : heavyB ds 16 <;> simp_all
  have hh2 : heavyB es 8 = false := by cases h : heavyB es 8 <;> simp_all
  rw [hh] at hheavy
  rw [hh2] at hheavy2
  obtain ⟨hl16, hfit⟩ := light_of hh
  obtain ⟨hl8, hfit2⟩ := light_of hh2
  have hsm : sortMost = 39 := rfl
  have hgd := grown_doc ds
  have hgl := grown_length ds
  obtain ⟨m, hmeq⟩ : ∃ m, m = grownDoc ds := ⟨_, rfl⟩
  have hgc := fun w hs => grown_calls (.slice a ds.length cp) ds w hs hfit (by omega)
  rw [← hmeq] at hgd hgl hgc
  repeat' (first
    | refine JE.pure rfl rfl (by conv => lhs; whnf) rfl ?_
    | refine JE.skip rfl rfl ?_
    | (refine JE.kBin ?_; (refine JE.int rfl rfl rfl rfl rfl rfl ?_; with_reducible refine JE.waysD (fun _ => ?_) (fun _ => ?_)))
    | (refine JE.kBuiltin ?_; refine JE.lenStr rfl rfl rfl ?_)
    | with_reducible refine JE.sN ?_
    | with_reducible refine J.seq ?_
    | with_reducible refine J.region ?_
    | refine J.condT rfl ?_
    | refine J.condF rfl ?_
    | with_reducible refine J.skip ?_
    | with_reducible refine J.block ?_
    | with_reducible refine J.ret ?_
    | with_reducible refine JX.thenN ?_
    | with_reducible refine JX.thenR ?_
    | (refine JE.isF 10 ?_; refine JE.call rfl rfl (by repeat (first | exact NfL.nil rfl | apply NfL.cons (by exact rfl) (by conv => lhs; whnf))) rfl ?_; refine CallG.ret (fun w hS => awake_calls w) ?_)
    | (refine JE.isF 11 ?_; refine JE.call rfl rfl (by repeat (first | exact NfL.nil rfl | apply NfL.cons (by exact rfl) (by conv => lhs; whnf))) rfl ?_; refine CallG.ret (fun w hS => hheavy w (hs0.below hS.below)) ?_)
    | (refine JE.isF 11 ?_; refine JE.call rfl rfl (by repeat (first | exact NfL.nil rfl | apply NfL.cons (by exact rfl) (by conv => lhs; whnf))) rfl ?_; refine CallG.ret (fun w hS => hheavy2 w (hs20.below hS.below)) ?_)
    | (refine JE.isF 12 ?_; refine JE.call rfl rfl (by repeat (first | exact NfL.nil rfl | apply NfL.cons (by exact rfl) (by conv => lhs; whnf))) rfl ?_; refine CallG.news (G := _) (fun w hS => hgc w (hs0.below hS.below)) ?_; rintro _ _ ⟨p, vm, lx, lm, rfl, rfl, hL, hm⟩; refine JE.perm (List.Perm.of_eq (List.append_assoc _ _ _)) ?_)
    | (refine JE.isF 19 ?_; refine JE.call rfl rfl (by repeat (first | exact NfL.nil rfl | apply NfL.cons (by exact rfl) (by conv => lhs; whnf))) rfl ?_; refine CallG.news (G := _) (fun w hS => copy_calls hL w (hS.sub (l' := lx) (by repeat (first | exact List.Sublist.refl _ | exact List.nil_sublist _ | refine List.Sublist.append_left ?_ _ | exact List.sublist_append_left _ _ | apply List.Sublist.cons_cons | apply List.Sublist.cons | apply List.sublist_append_of_sublist_right))).own (hS.sub (l' := lx) (by repeat (first | exact List.Sublist.refl _ | exact List.nil_sublist _ | refine List.Sublist.append_left ?_ _ | exact List.sublist_append_left _ _ | apply List.Sublist.cons_cons | apply List.Sublist.cons | apply List.sublist_append_of_sublist_right))).nodup) ?_; rintro _ ly ⟨p2, rfl, hL2⟩))
  all_goals first
    | exact fnQ_tmp (.inl rfl) rfl (by conv => lhs; whnf) fun w'' hS' => ⟨rfl, hS'.below⟩
    | skip
  refine J.loop (fun f w' => ∃ (k : Nat) (vn : Value) (ly ln : List (Nat × Obj)), k ≤ es.length ∧ Lien p2 ((es.take k).foldl docDeed m) ly ∧ (Own 6 encPledge 37 vn ((es.take k).foldl docDeed m) lm ∧ ln = [] ∨ Own 6 encPledge 37 vn ((es.take k).foldl docDeed m) ln) ∧
      Has f [(1, .slice a2 es.length cp2), (2, .string t), (3, .string who), (9, .pointer (some ⟨p, 0, none⟩)), (10, vm), (12, .pointer (some ⟨p2, 0, none⟩)), (13, vn), (14, .int .i64 k)] ∧ St w [] (ly ++ (ln ++ (lm ++ lx))) w')
    (fun f _ => es.length - (intOf (f 14)).toNat) (fun w' hS => ⟨0, vm, ly, [], Nat.zero_le _, hL2, .inl ⟨hm, rfl⟩, (by repeat' (first | exact trivial | refine And.intro (by rfl) ?_)), (hS.sub (l' := ly ++ (lx ++ lm)) (by repeat (first | exact List.Sublist.refl _ | exact List.nil_sublist _ | refine List.Sublist.append_left ?_ _ | exact List.sublist_append_left _ _ | apply List.Sublist.cons_cons | apply List.Sublist.cons | apply List.sublist_append_of_sublist_right))).perm (List.perm_append_comm.append_left _)⟩) ?_
  clear hL2
  rintro f w' ⟨k, vn, ly, ln, hk, hL2, hn, hf, hS⟩
  obtain ⟨g, rfl⟩ := hf.eq
  clear hf
  refine J.at_ ?_ hS
  have hnl : ((es.take k).foldl docDeed m).length ≤ 39 := by
    have := fold_length (es.take k) m
    rw [List.length_take] at this; omega
  have hnd := fold_doc (es.take k) m hgd
  by_cases hlt : k < es.length
  · obtain ⟨B, off, rfl, hr⟩ := hs2 (by intro e; rw [e] at hlt; simp at hlt)
    have hxk : es[k]? = some es[k] := List.getElem?_eq_getElem hlt
    have hnext := fold_snoc (m := m) hxk
    have hfd := hfit2 es[k] (List.getElem_mem hlt)
    generalize es[k] = d at hxk hnext hfd
    generalize (es.take k).foldl docDeed m = n at hL2 hn hnl hnd hnext
    have hmo : (rowOf n d.p.thing).length ≤ sortMost := Nat.le_trans (rowOf_length _ _) (by omega)
    rcases hn with ⟨hn, rfl⟩ | hn
    · refine J.perm (l' := (ly ++ lm) ++ lx) (by simp) ?_
      repeat' (first
        | refine JE.pure rfl rfl (by conv => lhs; whnf) rfl ?_
        | (refine JE.kBin ?_; (refine JE.int rfl rfl rfl rfl rfl rfl ?_; with_reducible refine JE.waysD (fun _ => ?_) (fun _ => ?_)))
        | (refine JE.kBin ?_; refine JE.int rfl rfl rfl rfl (by rw [i64_id (by omega)]) rfl ?_)
        | (refine JE.kBuiltin ?_; refine JE.lenSl rfl rfl rfl ?_)
        | with_reducible refine JE.sN ?_
        | with_reducible refine JE.sX ?_
        | with_reducible refine J.seq ?_
        | with_reducible refine J.region ?_
        | refine J.condT rfl ?_
        | refine J.condF rfl ?_
        | with_reducible refine J.skip ?_
        | with_reducible refine J.exit ?_
        | with_reducible refine J.block ?_
        | with_reducible refine JX.thenN ?_
        | with_reducible refine JX.thenE ?_
        | with_reducible refine JX.blkS ?_
        | with_reducible refine JX.blkN ?_
        | (refine JE.kIndexAddr ?_; refine JE.indexAddr rfl rfl rfl (Int.natCast_nonneg _) (by omega) rfl ?_)
        | (refine JE.kLoad ?_; refine JE.loadRow rfl rfl hr (by simp) hxk rfl rfl (fun h => by first | exact trivial | cases h) rfl ?_)
        | (refine JE.isF 22 ?_; refine JE.call rfl rfl (by repeat (first | exact NfL.nil rfl | apply NfL.cons (by exact rfl) (by conv => lhs; whnf))) rfl ?_; refine CallG.obj (ln := ly ++ lm) (G := _) (by repeat (first | exact Seg.head | exact Seg.all | exact Seg.one | apply Seg.tail | apply Seg.cons)) (fun w hS => doneB_calls hL2 hn d hfd hmo w (hS.owns (by repeat (first | exact Seg.head | exact Seg.all | exact Seg.one | apply Seg.tail | apply Seg.cons))) (hS.dist (by repeat (first | exact Seg.head | exact Seg.all | exact Seg.one | apply Seg.tail | apply Seg.cons)))) (fun _ _ _ _ => trivial) ?_; rintro _ _ ⟨v5, l1, l2, rfl, rfl, hL3, hb⟩))
      all_goals first
        | (exfalso; omega)
        | skip
      rcases hb with ⟨rfl, hnn, rfl⟩ | ho
      · refine JX.round fun w'' hS' => ⟨⟨k + 1, _, l1, [], hlt, by rw [hnext]; exact hL3, .inl ⟨by rw [hnext, hnn]; exact hn, rfl⟩, (by repeat' (first | exact trivial | refine And.intro (by rfl) ?_)), by simpa using hS'⟩, ?_⟩
        show es.length - ((k : Int) + 1).toNat < es.length - (k : Int).toNat
        omega
      · refine JX.round fun w'' hS' => ⟨⟨k + 1, _, l1, l2, hlt, by rw [hnext]; exact hL3, .inr (by rw [hnext]; exact ho), (by repeat' (first | exact trivial | refine And.intro (by rfl) ?_)), by simpa using hS'⟩, ?_⟩
        show es.length - ((k : Int) + 1).toNat < es.length - (k : Int).toNat
        omega
    · refine J.perm (l' := (ly ++ ln) ++ (lm ++ lx)) (by simp) ?_
      repeat' (first
        | refine JE.pure rfl rfl (by conv => lhs; whnf) rfl ?_
        | (refine JE.kBin ?_; (refine JE.int rfl rfl rfl rfl rfl rfl ?_; with_reducible refine JE.waysD (fun _ => ?_) (fun _ => ?_)))
        | (refine JE.kBin ?_; refine JE.int rfl rfl rfl rfl (by rw [i64_id (by omega)]) rfl ?_)
        | (refine JE.kBuiltin ?_; refine JE.lenSl rfl rfl rfl ?_)
        | with_reducible refine JE.sN ?_
        | with_reducible refine JE.sX ?_
        | with_reducible refine J.seq ?_
        | with_reducible refine J.region ?_
        | refine J.condT rfl ?_
        | refine J.condF rfl ?_
        | with_reducible refine J.skip ?_
        | with_reducible refine J.exit ?_
        | with_reducible refine J.block ?_
        | with_reducible refine JX.thenN ?_
        | with_reducible refine JX.thenE ?_
        | with_reducible refine JX.blkS ?_
        | with_reducible refine JX.blkN ?_
        | (refine JE.kIndexAddr ?_; refine JE.indexAddr rfl rfl rfl (Int.natCast_nonneg _) (by omega) rfl ?_)
        | (refine JE.kLoad ?_; refine JE.loadRow rfl rfl hr (by simp) hxk rfl rfl (fun h => by first | exact trivial | cases h) rfl ?_)
        | (refine JE.isF 22 ?_; refine JE.call rfl rfl (by repeat (first | exact NfL.nil rfl | apply NfL.cons (by exact rfl) (by conv => lhs; whnf))) rfl ?_; refine CallG.obj (ln := ly ++ ln) (G := _) (by repeat (first | exact Seg.head | exact Seg.all | exact Seg.one | apply Seg.tail | apply Seg.cons)) (fun w hS => doneB_calls hL2 hn d hfd hmo w (hS.owns (by repeat (first | exact Seg.head | exact Seg.all | exact Seg.one | apply Seg.tail | apply Seg.cons))) (hS.dist (by repeat (first | exact Seg.head | exact Seg.all | exact Seg.one | apply Seg.tail | apply Seg.cons)))) (fun _ _ _ _ => trivial) ?_; rintro _ _ ⟨v5, l1, l2, rfl, rfl, hL3, hb⟩))
      all_goals first
        | (exfalso; omega)
        | skip
      rcases hb with ⟨rfl, hnn, rfl⟩ | ho
      · refine JX.round fun w'' hS' => ⟨⟨k + 1, _, l1, ln, hlt, by rw [hnext]; exact hL3, .inr (by rw [hnext, hnn]; exact hn), (by repeat' (first | exact trivial | refine And.intro (by rfl) ?_)), by simpa using hS'⟩, ?_⟩
        show es.length - ((k : Int) + 1).toNat < es.length - (k : Int).toNat
        omega
      · refine JX.round fun w'' hS' => ⟨⟨k + 1, _, l1, l2, hlt, by rw [hnext]; exact hL3, .inr (by rw [hnext]; exact ho), (by repeat' (first | exact trivial | refine And.intro (by rfl) ?_)), (hS'.sub (l' := (l1 ++ l2) ++ (lm ++ lx)) (by simp only [List.append_assoc]; exact (by repeat (first | exact List.Sublist.refl _ | exact List.nil_sublist _ | refine List.Sublist.append_left ?_ _ | exact List.sublist_append_left _ _ | apply List.Sublist.cons_cons | apply List.Sublist.cons | apply List.sublist_append_of_sublist_right)))).perm (by simp)⟩, ?_⟩
        show es.length - ((k : Int) + 1).toNat < es.length - (k : Int).toNat
        omega
  · generalize (es.take k).foldl docDeed m = n at hL2 hn hnl hnd
    have hev : ∀ w', St w [] (ly ++ (ln ++ lm)) w' → Does Try.prog 21 [.pointer (some ⟨p2, 0, none⟩), vn, .string t, .string who] w' (Ret w' (.bool true)) := fun w' hS => by
      rcases hn with ⟨hn, rfl⟩ | hn
      · exact even_calls hL2 hn t who (by omega) w' (hS.sub (l' := ly ++ lm) (by repeat (first | exact List.Sublist.refl _ | exact List.nil_sublist _ | refine List.Sublist.append_left ?_ _ | exact List.sublist_append_left _ _ | apply List.Sublist.cons_cons | apply List.Sublist.cons | apply List.sublist_append_of_sublist_right))).own (hS.sub (l' := ly ++ lm) (by repeat (first | exact List.Sublist.refl _ | exact List.nil_sublist _ | refine List.Sublist.append_left ?_ _ | exact List.sublist_append_left _ _ | apply List.Sublist.cons_cons | apply List.Sublist.cons | apply List.sublist_append_of_sublist_right))).nodup
      · exact even_calls hL2 hn t who (by omega) w' (hS.sub (l' := ly ++ ln) (by repeat (first | exact List.Sublist.refl _ | exact List.nil_sublist _ | refine List.Sublist.append_left ?_ _ | exact List.sublist_append_left _ _ | apply List.Sublist.cons_cons | apply List.Sublist.cons | apply List.sublist_append_of_sublist_right))).own (hS.sub (l' := ly ++ ln) (by repeat (first | exact List.Sublist.refl _ | exact List.nil_sublist _ | refine List.Sublist.append_left ?_ _ | exact List.sublist_append_left _ _ | apply List.Sublist.cons_cons | apply List.Sublist.cons | apply List.sublist_append_of_sublist_right))).nodup
    have hev1 : ∀ w', St w [] (ly ++ (ln ++ (lm ++ lx))) w' → Does Try.prog 21 [.pointer (some ⟨p, 0, none⟩), vm, .string t, .string who] w' (Ret w' (.bool true)) := fun w' hS => by
      have h1 := (hS.sub (l' := lm ++ lx) (by repeat (first | exact List.Sublist.refl _ | exact List.nil_sublist _ | refine List.Sublist.append_left ?_ _ | exact List.sublist_append_left _ _ | apply List.Sublist.cons_cons | apply List.Sublist.cons | apply List.sublist_append_of_sublist_right))).perm List.perm_append_comm
      exact even_calls hL hm t who (by omega) w' h1.own h1.nodup
    obtain ⟨am, cm, rfl, _⟩ := hm.shape
    repeat' (first
      | refine JE.pure rfl rfl (by conv => lhs; whnf) rfl ?_
      | (refine JE.kBin ?_; (refine JE.int rfl rfl rfl rfl rfl rfl ?_; with_reducible refine JE.waysD (fun _ => ?_) (fun _ => ?_)))
      | (refine JE.kBuiltin ?_; refine JE.lenSl rfl rfl rfl ?_)
      | with_reducible refine JE.sN ?_
      | with_reducible refine J.seq ?_
      | with_reducible refine J.region ?_
      | refine J.condT rfl ?_
      | refine J.condF rfl ?_
      | with_reducible refine J.skip ?_
      | with_reducible refine J.exit ?_
      | with_reducible refine J.block ?_
      | with_reducible refine JX.thenN ?_
      | with_reducible refine JX.thenE ?_
      | with_reducible refine JX.blkS ?_
      | (refine JE.isF 21 ?_; refine JE.call rfl rfl (by repeat (first | exact NfL.nil rfl | apply NfL.cons (by exact rfl) (by conv => lhs; whnf))) rfl ?_; refine CallG.ret (fun w hS => hev1 w hS) ?_)
      | (refine JE.isF 21 ?_; refine JE.call rfl rfl (by repeat (first | exact NfL.nil rfl | apply NfL.cons (by exact rfl) (by conv => lhs; whnf))) rfl ?_; refine CallG.ret (fun w hS => hev w (hS.sub (by repeat (first | exact List.Sublist.refl _ | exact List.nil_sublist _ | refine List.Sublist.append_left ?_ _ | exact List.sublist_append_left _ _ | apply List.Sublist.cons_cons | apply List.Sublist.cons | apply List.sublist_append_of_sublist_right)))) ?_))
    all_goals first
      | (exfalso; omega)
      | skip
    refine J.loop (fun f w' => ∃ (q : Nat) (mk : List Pledge) (lk : List (Nat × Obj)), q ≤ m.length ∧ Lien p mk lk ∧ (∀ x ∈ mk, x ∈ m.drop q) ∧
        Has f [(2, .string t), (3, .string who), (9, .pointer (some ⟨p, 0, none⟩)), (10, .slice am m.length cm), (12, .pointer (some ⟨p2, 0, none⟩)), (13, vn), (17, .int .i64 q)] ∧ St w [] (lk ++ (ly ++ (ln ++ lm))) w')
      (fun f _ => m.length - (intOf (f 17)).toNat) (fun w' hS => ⟨0, m, lx, Nat.zero_le _, hL, fun x hx => hx, (by repeat' (first | exact trivial | refine And.intro (by rfl) ?_)), hS.perm (by rw [← List.append_assoc, ← List.append_assoc, List.append_assoc ly]; exact List.perm_append_comm)⟩) ?_
    rintro f w' ⟨q, mk, lk, hq, hLk, hmk, hf, hS⟩
    obtain ⟨g, rfl⟩ := hf.eq
    clear hf
    refine J.at_ ?_ hS
    by_cases hlq : q < m.length
    · have hxq : m[q]? = some m[q] := List.getElem?_eq_getElem hlq
      have hdr : m.drop q = m[q] :: m.drop (q + 1) := List.drop_eq_getElem_cons hlq
      generalize m[q] = y at hxq hdr
      have hnext : ∀ x ∈ rel26 mk y.thing y.creditor, x ∈ m.drop (q + 1) := fun x hx => by
        obtain ⟨h1, h2⟩ := List.mem_filter.1 hx
        have := hmk x h1
        rw [hdr] at this
        rcases List.mem_cons.1 this with rfl | h
        · simp [stays] at h2
        · exact h
      have hslm : ∀ w', St w [] (lk ++ (ly ++ (ln ++ lm))) w' → Sl 6 encPledge w' (.slice am m.length cm) m := fun w' hS => hm.sl encP_len (hS.sub (l' := lm) (by repeat (first | exact List.Sublist.refl _ | exact List.nil_sublist _ | refine List.Sublist.append_left ?_ _ | exact List.sublist_append_left _ _ | apply List.Sublist.cons_cons | apply List.Sublist.cons | apply List.sublist_append_of_sublist_right))).own
      obtain ⟨Bm, offm, rfl⟩ : ∃ B off, am = some ⟨B, off, none⟩ := by
        obtain ⟨a', c', e1, h2⟩ := hslm _ hS
        obtain ⟨B, off, e2, _⟩ := h2 (by rintro e; rw [e] at hxq; simp at hxq)
        simp only [Value.slice.injEq] at e1
        exact ⟨B, off, e1.1.trans e2⟩
      have hrm := rows_of hslm (by rintro e; rw [e] at hxq; simp at hxq)
      have hrel := fun w hw hn => release_calls hLk y.thing y.creditor w hw hn
      repeat' (first
        | refine JE.pure rfl rfl (by conv => lhs; whnf) rfl ?_
        | (refine JE.kBin ?_; (refine JE.int rfl rfl rfl rfl rfl rfl ?_; with_reducible refine JE.waysD (fun _ => ?_) (fun _ => ?_)))
        | (refine JE.kBin ?_; refine JE.int rfl rfl rfl rfl (by rw [i64_id (by omega)]) rfl ?_)
        | (refine JE.kField ?_; refine JE.fieldAddr rfl rfl rfl ?_)
        | (refine JE.kBuiltin ?_; refine JE.lenSl rfl rfl rfl ?_)
        | (refine JE.isT ?_; first | refine JE.fork2 rfl ?_ ?_ | refine JE.fork3 rfl ?_ ?_ ?_ | refine JE.leaf1 rfl ?_ | refine JE.leaf0 rfl ?_ | refine JE.leafX1 rfl ?_ | refine JE.leafX0 rfl ?_)
        | with_reducible refine JE.sN ?_
        | with_reducible refine JE.sX ?_
        | with_reducible refine J.seq ?_
        | with_reducible refine J.region ?_
        | refine J.condT rfl ?_
        | refine J.condF rfl ?_
        | with_reducible refine J.skip ?_
        | with_reducible refine J.exit ?_
        | with_reducible refine J.block ?_
        | with_reducible refine JX.thenN ?_
        | with_reducible refine JX.thenE ?_
        | with_reducible refine JX.blkS ?_
        | with_reducible refine JX.blkN ?_
        | (refine J.isR 22 ?_; refine J.drawTL 1 ([(0, true), (1, true), (2, true), (3, true), (4, true), (6, true), (7, true), (8, true), (9, true)], [(5, [(10, false), (11, false)]), (10, [(5, false), (11, false)])]) mixed (by kernel_rfl) (fun _ h => h.drew) ?_)
        | (refine JE.kIndexAddr ?_; refine JE.indexAddr rfl rfl rfl (Int.natCast_nonneg _) (by omega) rfl ?_)
        | (refine JE.isLoadT 90 ?_; refine JE.loadRowCS rfl rfl hrm hxq rfl rfl (fun h => by first | exact trivial | cases h) rfl ?_)
        | (refine JE.isLoadT 95 ?_; refine JE.loadRowCS rfl rfl hrm hxq rfl rfl (fun h => by first | exact trivial | cases h) rfl ?_)
        | (refine JE.isF 17 ?_; refine JE.call rfl rfl (by repeat (first | exact NfL.nil rfl | apply NfL.cons (by exact rfl) (by conv => lhs; whnf))) rfl ?_; refine CallG.obj (ln := lk) (G := _) (by repeat (first | exact Seg.head | exact Seg.all | exact Seg.one | apply Seg.tail | apply Seg.cons)) (fun w hS => hrel w (hS.owns (by repeat (first | exact Seg.head | exact Seg.all | exact Seg.one | apply Seg.tail | apply Seg.cons))) (hS.dist (by repeat (first | exact Seg.head | exact Seg.all | exact Seg.one | apply Seg.tail | apply Seg.cons)))) (fun _ _ _ _ => trivial) ?_; rintro _ l5 ⟨rfl, hL5⟩))
      all_goals first
        | (exfalso; omega)
        | (refine JX.round fun w'' hS' => ⟨⟨q + 1, _, l5, hlq, hL5, hnext, (by repeat' (first | exact trivial | refine And.intro (by rfl) ?_)), hS'⟩, ?_⟩
           show m.length - ((q : Int) + 1).toNat < m.length - (q : Int).toNat
           omega)
    · have hmk0 : mk = [] := List.eq_nil_iff_forall_not_mem.2 fun x hx => by
        have := hmk x hx
        rw [List.drop_eq_nil_of_le (by omega)] at this; cases this
      subst hmk0
      repeat' (first
        | refine JE.pure rfl rfl (by conv => lhs; whnf) rfl ?_
        | refine JE.skip rfl rfl ?_
        | (refine JE.kBin ?_; (refine JE.int rfl rfl rfl rfl rfl rfl ?_; with_reducible refine JE.waysD (fun _ => ?_) (fun _ => ?_)))
        | (refine JE.kBuiltin ?_; refine JE.lenSl rfl rfl rfl ?_)
        | with_reducible refine JE.sN ?_
        | with_reducible refine J.seq ?_
        | with_reducible refine J.region ?_
        | refine J.condT rfl ?_
        | refine J.condF rfl ?_
        | with_reducible refine J.skip ?_
        | with_reducible refine J.exit ?_
        | with_reducible refine J.block ?_
        | with_reducible refine J.ret ?_
        | with_reducible refine JX.thenN ?_
        | with_reducible refine JX.thenE ?_
        | with_reducible refine JX.blkS ?_
        | (refine JE.isF 20 ?_; refine JE.call rfl rfl (by repeat (first | exact NfL.nil rfl | apply NfL.cons (by exact rfl) (by conv => lhs; whnf))) rfl ?_; refine CallG.news (G := _) (fun w hS => things_calls hLk w (hS.sub (l' := lk) (by repeat (first | exact List.Sublist.refl _ | exact List.nil_sublist _ | refine List.Sublist.append_left ?_ _ | exact List.sublist_append_left _ _ | apply List.Sublist.cons_cons | apply List.Sublist.cons | apply List.sublist_append_of_sublist_right))).own (hS.sub (l' := lk) (by repeat (first | exact List.Sublist.refl _ | exact List.nil_sublist _ | refine List.Sublist.append_left ?_ _ | exact List.sublist_append_left _ _ | apply List.Sublist.cons_cons | apply List.Sublist.cons | apply List.sublist_append_of_sublist_right))).nodup) ?_; rintro v6 l6 ⟨ts, ho6, hnd6, hri6, hts⟩; have hts0 : ts = [] := List.eq_nil_iff_forall_not_mem.2 (fun x hx => by obtain ⟨_, h, _⟩ := (hts x).1 hx; cases h); rw [hts0] at ho6; obtain ⟨a6, c6, rfl, _⟩ := ho6.shape)
        | (refine JE.isF 21 ?_; refine JE.call rfl rfl (by repeat (first | exact NfL.nil rfl | apply NfL.cons (by exact rfl) (by conv => lhs; whnf))) rfl ?_; refine CallG.ret (fun w hS => hev w (hS.sub (by repeat (first | exact List.Sublist.refl _ | exact List.nil_sublist _ | refine List.Sublist.append_left ?_ _ | exact List.sublist_append_left _ _ | apply List.Sublist.cons_cons | apply List.Sublist.cons | apply List.sublist_append_of_sublist_right)))) ?_))
      all_goals first
        | (exfalso; omega)
        | exact absurd rfl ‹_›
        | exact fnQ_tmp (.inl rfl) rfl (by conv => lhs; whnf) fun w'' hS' => ⟨rfl, hS'.below⟩

end Go.Proofs.Ytnapfiheholhiaa
