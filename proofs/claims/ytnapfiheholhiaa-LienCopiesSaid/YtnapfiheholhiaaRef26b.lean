/-
  The walks of the document's own code of layer 26: the rank, what is paid, what is compared. Conditions: none.
-/
import Derived.Test.YtnapfiheholhiaaRef26
set_option linter.unusedVariables false
set_option linter.unusedSimpArgs false
namespace Go.Proofs.Ytnapfiheholhiaa
open Go Go.RowKit Go.Proofs.YtnapfiheholhiaaSym

def refLt (x y : Pledge) : Bool := !aheadP y x
theorem rowOf_take {m : List Pledge} {t : ByteArray} {k : Nat} {x : Pledge} (hx : m[k]? = some x) : rowOf (m.take (k + 1)) t = rowOf (m.take k) t ++ (if x.thing = t then [x] else []) := by
  unfold rowOf
  rw [filter_take hx]
  simp

theorem ins_shape {α : Type} {s : List α} {x : α} {q : Nat} : [] ++ List.drop 0 (List.take q s) ++ [x] ++ List.drop q (List.take s.length s) = s.take q ++ x :: s.drop q := by simp

set_option maxHeartbeats 4000000 in
theorem refRank_calls (vm : Value) (m : List Pledge) (t : ByteArray) (w : World) (hs : Sl 6 encPledge w vm m) (hl : m.length ≤ 4096) :
    Does Try.prog 41 [vm, .string t] w (RetN w fun u ln => Own 6 encPledge 37 u (sortB refLt (rowOf m t)) ln) := by
  have hs0 := hs
  obtain ⟨a, cp, rfl, hs⟩ := hs
  refine calls_J (ys := [.slice a m.length cp, .string t]) Try.func41 rfl Try.ntmps41 rfl ?_
  refine J.at_ (S := St w [] []) ?_ (St.start w)
  repeat' (first
    | refine JE.pure rfl rfl (by conv => lhs; whnf) rfl ?_
    | with_reducible refine JE.sN ?_
    | with_reducible refine J.seq ?_
    | with_reducible refine J.region ?_
    | with_reducible refine J.block ?_
    | (refine JE.kBuildSlice ?_; refine JE.buildSlice0 rfl rfl (fun _ _ => ?_)))
  refine J.loop (fun f w' => ∃ (k : Nat) (v : Value) (ln : List (Nat × Obj)), k ≤ m.length ∧ Own 6 encPledge 37 v (sortB refLt (rowOf (m.take k) t)) ln ∧ Has f [(0, .slice a m.length cp), (1, .string t), (5, v), (6, .int .i64 k)] ∧ St w [] ln w')
    (fun f _ => m.length - (intOf (f 6)).toNat) (fun w' hS => ⟨0, _, _, Nat.zero_le _, Own.empty, (by repeat' (first | exact trivial | refine And.intro (by rfl) ?_)), hS⟩) ?_
  rintro f w' ⟨k, v, ln, hk, ho, hf, hS⟩
  obtain ⟨g, rfl⟩ := hf.eq
  clear hf
  refine J.at_ ?_ hS
  by_cases hlt : k < m.length
  · obtain ⟨B, off, rfl, hr⟩ := hs (by intro e; rw [e] at hlt; simp at hlt)
    have hxk : m[k]? = some m[k] := List.getElem?_eq_getElem hlt
    have hft := rowOf_take (t := t) hxk
    generalize m[k] = x at hxk hft
    by_cases hth : x.thing = t
    · rw [if_pos hth] at hft
      have hsl0 : ∀ w', St w [] ln w' → Sl 6 encPledge w' v (sortB refLt (rowOf (m.take k) t)) := fun w' hS => ho.sl encP_len hS.own
      have hfl : (sortB refLt (rowOf (m.take k) t)).length ≤ k := by rw [sortB_length]; exact Nat.le_trans (rowOf_length _ _) (by simp; omega)
      have hnext : sortB refLt (rowOf (m.take (k + 1)) t) = insB refLt x (sortB refLt (rowOf (m.take k) t)) := by rw [hft, sortB_snoc]
      obtain ⟨s, hseq⟩ : ∃ s, s = sortB refLt (rowOf (m.take k) t) := ⟨_, rfl⟩
      rw [← hseq] at ho hsl0 hfl hnext
      obtain ⟨a5, c5, rfl, hc5⟩ := ho.shape
      repeat' (first
        | refine JE.pure rfl rfl (by conv => lhs; whnf) rfl ?_
        | (refine JE.kBin ?_; (refine JE.int rfl rfl rfl rfl rfl rfl ?_; with_reducible refine JE.waysD (fun _ => ?_) (fun _ => ?_)))
        | (refine JE.kBin ?_; refine JE.int rfl rfl rfl rfl (by rw [i64_id (by omega)]) rfl ?_)
        | (refine JE.kBin ?_; (refine JE.neStr rfl rfl rfl rfl ?_; with_reducible refine JE.waysD (fun _ => ?_) (fun _ => ?_)))
        | (refine JE.kField ?_; refine JE.fieldAddr rfl rfl rfl ?_)
        | (refine JE.kBuiltin ?_; refine JE.lenSl rfl rfl rfl ?_)
        | with_reducible refine JE.sN ?_
        | with_reducible refine JE.sX ?_
        | with_reducible refine J.seq ?_
        | with_reducible refine J.region ?_
        | refine J.condT rfl ?_
        | refine J.condF rfl ?_
        | with_reducible refine J.skip ?_
        | with_reducible refine J.exit ?_
        | with_reducible refine J.block ?_
        | with_reducible refine J.ret ?_
        | with_reducible refine JX.thenN ?_
        | with_reducible refine JX.thenE ?_
        | with_reducible refine JX.blkS ?_
        | (refine JE.kIndexAddr ?_; refine JE.indexAddr rfl rfl rfl (Int.natCast_nonneg _) (by omega) rfl ?_)
        | (refine JE.kLoad ?_; refine JE.loadRowC rfl rfl hr (by simp) hxk rfl rfl (fun h => by first | exact trivial | cases h) rfl ?_))
      all_goals first
        | (exfalso; omega)
        | contradiction
        | skip
      refine J.loop (fun f w' => ∃ (q : Nat), q ≤ s.length ∧ (∀ (j : Nat) y, q ≤ j → s[j]? = some y → refLt x y = true) ∧ Has f [(0, .slice (some ⟨B, off, none⟩) m.length cp), (1, .string t), (5, .slice a5 s.length c5), (6, .int .i64 k), (7, .int .i64 q)] ∧ St w [] ln w')
        (fun f _ => (intOf (f 7)).toNat) (fun w' hS => ⟨s.length, Nat.le_refl _, fun j y hj hy => ?_, (by repeat' (first | exact trivial | refine And.intro (by rfl) ?_)), hS⟩) ?_
      · have := (List.getElem?_eq_some_iff.1 hy).1; omega
      rintro f w' ⟨q, hq, hpass, hf, hS⟩
      obtain ⟨g, rfl⟩ := hf.eq
      clear hf
      refine J.at_ ?_ hS
      rcases Nat.eq_zero_or_pos q with rfl | hq0
      · have hin := insB_at (lt := refLt) (x := x) hq hpass (.inl rfl)
        repeat' (first
          | refine JE.pure rfl rfl (by conv => lhs; whnf) rfl ?_
          | refine JE.skip rfl rfl ?_
          | (refine JE.kBin ?_; (refine JE.int rfl rfl rfl rfl rfl rfl ?_; with_reducible refine JE.waysD (fun _ => ?_) (fun _ => ?_)))
          | (refine JE.kBin ?_; refine JE.int rfl rfl rfl rfl (by rw [i64_id (by omega)]) rfl ?_)
          | (refine JE.kBuildSlice ?_; refine JE.buildSlice rfl rfl rfl (by conv => lhs; whnf) (by rfl) (by rfl) (by repeat (first | exact NfL.nil rfl | apply NfL.cons (by exact rfl) (by conv => lhs; whnf))) rfl (fun _ _ => ?_))
          | (refine JE.isT ?_; first | refine JE.fork2 rfl ?_ ?_ | refine JE.fork3 rfl ?_ ?_ ?_ | refine JE.leaf1 rfl ?_ | refine JE.leaf0 rfl ?_ | refine JE.leafX1 rfl ?_ | refine JE.leafX0 rfl ?_)
          | with_reducible refine JE.sX ?_
          | with_reducible refine JE.dN ?_
          | with_reducible refine J.seq ?_
          | with_reducible refine J.region ?_
          | refine J.condF rfl ?_
          | with_reducible refine J.exit ?_
          | with_reducible refine JX.thenN ?_
          | with_reducible refine JX.thenE ?_
          | with_reducible refine JX.blkS ?_
          | with_reducible refine JX.blkN ?_
          | (refine J.isR 7 ?_; refine J.draw [(0, true), (1, true), (2, true), (3, true), (4, true), (5, true), (6, true), (7, true), (8, true), (9, true), (10, true), (11, true), (12, false), (13, true), (14, true)] [] mixed (by kernel_rfl) (fun _ h => h.drew) ?_)
          | (refine J.isR 9 ?_; refine J.drawTL 3 ([(1, true), (2, true), (3, true), (5, true), (6, true), (7, true)], [(0, ([], [(4, ([(8, false), (9, false), (10, false), (11, true)], [])), (8, ([], [(4, [(9, false), (10, false), (11, true)]), (9, [(4, false), (10, false), (11, true)])]))])), (8, ([], [(0, ([], [(4, [(9, false), (10, false), (11, true)]), (9, [(4, false), (10, false), (11, true)])])), (9, ([(0, false), (4, false), (10, false), (11, true)], []))]))]) mixed (by kernel_rfl) (fun _ h => h.drew) ?_)
          | (refine JE.kBuildSlice ?_; refine JE.buildSlice0 rfl rfl (fun _ _ => ?_))
          | (refine JE.kSlice ?_; refine JE.sliceP (p := 0) (q := 0) rfl rfl rfl ⟨_, rfl⟩ (by omega) (by omega) hc5 hsl0 rfl (fun a9 hs9 => ?_))
          | (refine JE.kSlice ?_; refine JE.sliceP (p := 0) (q := s.length) rfl rfl ⟨_, rfl⟩ rfl (by omega) (by omega) hc5 hsl0 rfl (fun a10 hs10 => ?_))
          | (refine JE.kIndexAddr ?_; refine JE.indexAddr rfl rfl rfl (Int.natCast_nonneg _) (by omega) rfl ?_)
          | (refine JE.kLoad ?_; refine JE.loadRow rfl rfl hr (by simp) hxk rfl rfl (fun h => by first | exact trivial | cases h) rfl ?_)
          | (refine JE.isAppT 42 ?_; (refine JE.kBuiltin ?_; refine JE.appendOwn rfl rfl rfl ((Own.empty (k := 6) (enc := encPledge))) (by repeat (first | exact Seg.head | exact Seg.all | exact Seg.one | apply Seg.tail | apply Seg.cons)) (fun _ => rfl) (fun _ => rfl) (fun w hS => hs9 w (hS.sub (by repeat (first | exact List.Sublist.refl _ | exact List.nil_sublist _ | refine List.Sublist.append_left ?_ _ | exact List.sublist_append_left _ _ | apply List.Sublist.cons_cons | apply List.Sublist.cons | apply List.sublist_append_of_sublist_right)))) (by (try simp only [List.length_cons, List.length_nil, List.length_append, List.length_drop, List.length_take, maxLen] at *); omega) (by (try simp only [List.length_cons, List.length_nil, List.length_append, List.length_drop, List.length_take, maxLen] at *); omega) (fun _ _ _ _ => trivial) rfl (fun _ _ _ => ?_)))
          | (refine JE.isAppT 46 ?_; (refine JE.kBuiltin ?_; refine JE.appendOwn rfl rfl rfl ((show Own 6 encPledge 37 _ _ _ by assumption)) (by repeat (first | exact Seg.head | exact Seg.all | exact Seg.one | apply Seg.tail | apply Seg.cons)) (fun _ => rfl) (fun _ => rfl) (fun w hS => sl_one encP_len x (hS.get (by repeat (first | exact In.head | refine In.tail ?_ | refine In.app ?_)))) (by (try simp only [List.length_cons, List.length_nil, List.length_append, List.length_drop, List.length_take, maxLen] at *); omega) (by (try simp only [List.length_cons, List.length_nil, List.length_append, List.length_drop, List.length_take, maxLen] at *); omega) (fun _ _ _ _ => trivial) rfl (fun _ _ _ => ?_)))
          | (refine JE.isAppT 53 ?_; (refine JE.kBuiltin ?_; refine JE.appendOwn rfl rfl rfl ((show Own 6 encPledge 37 _ _ _ by assumption)) (by repeat (first | exact Seg.head | exact Seg.all | exact Seg.one | apply Seg.tail | apply Seg.cons)) (fun _ => rfl) (fun _ => rfl) (fun w hS => hs10 w (hS.sub (by repeat (first | exact List.Sublist.refl _ | exact List.nil_sublist _ | refine List.Sublist.append_left ?_ _ | exact List.sublist_append_left _ _ | apply List.Sublist.cons_cons | apply List.Sublist.cons | apply List.sublist_append_of_sublist_right)))) (by (try simp only [List.length_cons, List.length_nil, List.length_append, List.length_drop, List.length_take, maxLen] at *); omega) (by (try simp only [List.length_cons, List.length_nil, List.length_append, List.length_drop, List.length_take, maxLen] at *); omega) (fun _ _ _ _ => trivial) rfl (fun _ _ _ => ?_))))
        all_goals first
          | (exfalso; omega)
          | (refine JX.round fun w'' hS' => ⟨⟨k + 1, _, _, hlt, ?_, (by repeat' (first | exact trivial | refine And.intro (by rfl) ?_)), hS'.sub (List.sublist_append_left _ _)⟩, ?_⟩
             · rename_i h
               rw [hnext, hin, ← ins_shape]; exact h
             · show m.length - ((k : Int) + 1).toNat < m.length - ((k : Int)).toNat
               omega)
      · obtain ⟨q, rfl⟩ : ∃ r, q = r + 1 := ⟨q - 1, by omega⟩
        have hyq : s[q]? = some s[q] := List.getElem?_eq_getElem (by omega)
        generalize s[q] = y at hyq
        have hsub : Value.int .i64 (IntKind.i64.wrap (((q + 1 : Nat) : Int) - 1)) = .int .i64 ((q : Nat) : Int) := by rw [i64_id (by omega)]; congr 1; omega
        have hne : s ≠ [] := by rintro rfl; simp at hyq
        obtain ⟨B5, off5, rfl⟩ : ∃ B off, a5 = some ⟨B, off, none⟩ := by
          obtain ⟨a', c', e1, h2⟩ := hsl0 _ hS
          obtain ⟨B, off, e2, _⟩ := h2 hne
          simp only [Value.slice.injEq] at e1
          exact ⟨B, off, e1.1.trans e2⟩
        have hr5 := rows_of hsl0 hne
        have hin : aheadP y x = true → insB refLt x s = s.take (q + 1) ++ x :: s.drop (q + 1) := fun h => insB_at hq hpass (.inr ⟨y, hyq, by simp [refLt, h]⟩)
        repeat' (first
          | (refine JE.kBin ?_; refine JE.int rfl rfl rfl rfl hsub rfl ?_)
          | refine JE.pure rfl rfl (by conv => lhs; whnf) rfl ?_
          | refine JE.skip rfl rfl ?_
          | (refine JE.kBin ?_; (refine JE.int rfl rfl rfl rfl rfl rfl ?_; with_reducible refine JE.waysD (fun _ => ?_) (fun _ => ?_)))
          | (refine JE.kBin ?_; refine JE.int rfl rfl rfl rfl (by rw [i64_id (by omega)]) rfl ?_)
          | (refine JE.kBuildSlice ?_; refine JE.buildSlice rfl rfl rfl (by conv => lhs; whnf) (by rfl) (by rfl) (by repeat (first | exact NfL.nil rfl | apply NfL.cons (by exact rfl) (by conv => lhs; whnf))) rfl (fun _ _ => ?_))
          | (refine JE.isT ?_; first | refine JE.fork2 rfl ?_ ?_ | refine JE.fork3 rfl ?_ ?_ ?_ | refine JE.leaf1 rfl ?_ | refine JE.leaf0 rfl ?_ | refine JE.leafX1 rfl ?_ | refine JE.leafX0 rfl ?_)
          | with_reducible refine JE.sX ?_
          | with_reducible refine JE.dN ?_
          | with_reducible refine J.seq ?_
          | with_reducible refine J.region ?_
          | refine J.condT rfl ?_
          | refine J.condF rfl ?_
          | with_reducible refine J.skip ?_
          | with_reducible refine J.exit ?_
          | with_reducible refine J.block ?_
          | with_reducible refine JX.thenN ?_
          | with_reducible refine JX.thenE ?_
          | with_reducible refine JX.blkS ?_
          | with_reducible refine JX.blkN ?_
          | (refine JE.isF 55 ?_; refine JE.call rfl rfl (by repeat (first | exact NfL.nil rfl | apply NfL.cons (by exact rfl) (by conv => lhs; whnf))) rfl ?_; refine CallG.ret (fun w hS => ahead_calls y x w) ?_; with_reducible refine JE.ways (fun _ => ?_) (fun _ => ?_))
          | (refine JE.kIndexAddr ?_; refine JE.indexAddr rfl rfl rfl (Int.natCast_nonneg _) (by omega) rfl ?_)
          | (refine JE.kLoad ?_; refine JE.loadRowS rfl rfl hr5 hyq rfl rfl (fun h => by first | exact trivial | cases h) rfl ?_)
          | (refine J.isR 7 ?_; refine J.draw [(0, true), (1, true), (2, true), (3, true), (4, true), (5, true), (6, true), (7, true), (8, true), (9, true), (10, true), (11, true), (12, false), (13, true), (14, true)] [] mixed (by kernel_rfl) (fun _ h => h.drew) ?_)
          | (refine J.isR 9 ?_; refine J.drawTL 3 ([(1, true), (2, true), (3, true), (5, true), (6, true), (7, true)], [(0, ([], [(4, ([(8, false), (9, false), (10, false), (11, true)], [])), (8, ([], [(4, [(9, false), (10, false), (11, true)]), (9, [(4, false), (10, false), (11, true)])]))])), (8, ([], [(0, ([], [(4, [(9, false), (10, false), (11, true)]), (9, [(4, false), (10, false), (11, true)])])), (9, ([(0, false), (4, false), (10, false), (11, true)], []))]))]) mixed (by kernel_rfl) (fun _ h => h.drew) ?_)
          | (refine JE.kBuildSlice ?_; refine JE.buildSlice0 rfl rfl (fun _ _ => ?_))
          | (refine JE.kSlice ?_; refine JE.sliceP (p := 0) (q := q + 1) rfl rfl rfl ⟨_, rfl⟩ (by omega) (by omega) hc5 hsl0 rfl (fun a9 hs9 => ?_))
          | (refine JE.kSlice ?_; refine JE.sliceP (p := q + 1) (q := s.length) rfl rfl ⟨_, rfl⟩ rfl (by omega) (by omega) hc5 hsl0 rfl (fun a10 hs10 => ?_))
          | (refine JE.kLoad ?_; refine JE.loadRow rfl rfl hr (by simp) hxk rfl rfl (fun h => by first | exact trivial | cases h) rfl ?_)
          | (refine JE.isAppT 42 ?_; (refine JE.kBuiltin ?_; refine JE.appendOwn rfl rfl rfl ((Own.empty (k := 6) (enc := encPledge))) (by repeat (first | exact Seg.head | exact Seg.all | exact Seg.one | apply Seg.tail | apply Seg.cons)) (fun _ => rfl) (fun _ => rfl) (fun w hS => hs9 w (hS.sub (by repeat (first | exact List.Sublist.refl _ | exact List.nil_sublist _ | refine List.Sublist.append_left ?_ _ | exact List.sublist_append_left _ _ | apply List.Sublist.cons_cons | apply List.Sublist.cons | apply List.sublist_append_of_sublist_right)))) (by (try simp only [List.length_cons, List.length_nil, List.length_append, List.length_drop, List.length_take, maxLen] at *); omega) (by (try simp only [List.length_cons, List.length_nil, List.length_append, List.length_drop, List.length_take, maxLen] at *); omega) (fun _ _ _ _ => trivial) rfl (fun _ _ _ => ?_)))
          | (refine JE.isAppT 46 ?_; (refine JE.kBuiltin ?_; refine JE.appendOwn rfl rfl rfl ((show Own 6 encPledge 37 _ _ _ by assumption)) (by repeat (first | exact Seg.head | exact Seg.all | exact Seg.one | apply Seg.tail | apply Seg.cons)) (fun _ => rfl) (fun _ => rfl) (fun w hS => sl_one encP_len x (hS.get (by repeat (first | exact In.head | refine In.tail ?_ | refine In.app ?_)))) (by (try simp only [List.length_cons, List.length_nil, List.length_append, List.length_drop, List.length_take, maxLen] at *); omega) (by (try simp only [List.length_cons, List.length_nil, List.length_append, List.length_drop, List.length_take, maxLen] at *); omega) (fun _ _ _ _ => trivial) rfl (fun _ _ _ => ?_)))
          | (refine JE.isAppT 53 ?_; (refine JE.kBuiltin ?_; refine JE.appendOwn rfl rfl rfl ((show Own 6 encPledge 37 _ _ _ by assumption)) (by repeat (first | exact Seg.head | exact Seg.all | exact Seg.one | apply Seg.tail | apply Seg.cons)) (fun _ => rfl) (fun _ => rfl) (fun w hS => hs10 w (hS.sub (by repeat (first | exact List.Sublist.refl _ | exact List.nil_sublist _ | refine List.Sublist.append_left ?_ _ | exact List.sublist_append_left _ _ | apply List.Sublist.cons_cons | apply List.Sublist.cons | apply List.sublist_append_of_sublist_right)))) (by (try simp only [List.length_cons, List.length_nil, List.length_append, List.length_drop, List.length_take, maxLen] at *); omega) (by (try simp only [List.length_cons, List.length_nil, List.length_append, List.length_drop, List.length_take, maxLen] at *); omega) (fun _ _ _ _ => trivial) rfl (fun _ _ _ => ?_))))
        all_goals first
          | (exfalso; omega)
          | (rename_i hah
             refine JX.round fun w'' hS' => ⟨⟨q, by omega, fun j z hj hz => ?_, (by repeat' (first | exact trivial | refine And.intro (by rfl) ?_)), hS'⟩, ?_⟩
             · rcases Nat.lt_or_ge q j with h | h
               · exact hpass j z h hz
               · have : j = q := by omega
                 subst this
                 rw [hyq] at hz; cases hz
                 simp [refLt, hah]
             · show ((q : Nat) : Int).toNat < ((q + 1 : Nat) : Int).toNat
               omega)
          | (refine JX.round fun w'' hS' => ⟨⟨k + 1, _, _, hlt, ?_, (by repeat' (first | exact trivial | refine And.intro (by rfl) ?_)), hS'.sub (List.sublist_append_left _ _)⟩, ?_⟩
             · rename_i h
               rw [hnext, hin ‹_›, ← ins_shape]; exact h
             · show m.length - ((k : Int) + 1).toNat < m.length - ((k : Int)).toNat
               omega)
    · rw [if_neg hth, List.append_nil] at hft
      repeat' (first
        | refine JE.pure rfl rfl (by conv => lhs; whnf) rfl ?_
        | (refine JE.kBin ?_; (refine JE.int rfl rfl rfl rfl rfl rfl ?_; with_reducible refine JE.waysD (fun _ => ?_) (fun _ => ?_)))
        | (refine JE.kBin ?_; refine JE.int rfl rfl rfl rfl (by rw [i64_id (by omega)]) rfl ?_)
        | (refine JE.kBin ?_; (refine JE.neStr rfl rfl rfl rfl ?_; with_reducible refine JE.waysD (fun _ => ?_) (fun _ => ?_)))
        | (refine JE.kField ?_; refine JE.fieldAddr rfl rfl rfl ?_)
        | (refine JE.kBuiltin ?_; refine JE.lenSl rfl rfl rfl ?_)
        | with_reducible refine JE.sN ?_
        | with_reducible refine JE.sX ?_
        | with_reducible refine J.seq ?_
        | with_reducible refine J.region ?_
        | refine J.condT rfl ?_
        | refine J.condF rfl ?_
        | with_reducible refine J.skip ?_
        | with_reducible refine J.exit ?_
        | with_reducible refine J.block ?_
        | with_reducible refine J.ret ?_
        | with_reducible refine JX.thenN ?_
        | with_reducible refine JX.thenE ?_
        | with_reducible refine JX.blkS ?_
        | (refine JE.kIndexAddr ?_; refine JE.indexAddr rfl rfl rfl (Int.natCast_nonneg _) (by omega) rfl ?_)
        | (refine JE.kLoad ?_; refine JE.loadRowC rfl rfl hr (by simp) hxk rfl rfl (fun h => by first | exact trivial | cases h) rfl ?_))
      all_goals first
        | (exfalso; omega)
        | contradiction
        | (refine JX.round fun w'' hS' => ⟨⟨k + 1, _, _, hlt, by rw [hft]; exact ho, (by repeat' (first | exact trivial | refine And.intro (by rfl) ?_)), hS'⟩, ?_⟩
           show m.length - ((k : Int) + 1).toNat < m.length - ((k : Int)).toNat
           omega)
  · have hk' : k = m.length := by omega
    rw [hk', List.take_length] at ho
    repeat' (first
      | refine JE.pure rfl rfl (by conv => lhs; whnf) rfl ?_
      | (refine JE.kBin ?_; (refine JE.int rfl rfl rfl rfl rfl rfl ?_; with_reducible refine JE.waysD (fun _ => ?_) (fun _ => ?_)))
      | (refine JE.kBuiltin ?_; refine JE.lenSl rfl rfl rfl ?_)
      | with_reducible refine JE.sN ?_
      | with_reducible refine J.seq ?_
      | with_reducible refine J.region ?_
      | refine J.condT rfl ?_
      | refine J.condF rfl ?_
      | with_reducible refine J.skip ?_
      | with_reducible refine J.exit ?_
      | with_reducible refine J.block ?_
      | with_reducible refine J.ret ?_
      | with_reducible refine JX.thenN ?_
      | with_reducible refine JX.thenE ?_
      | with_reducible refine JX.blkS ?_)
    all_goals first
      | (exfalso; omega)
      | exact fnQ_tmp (.inl rfl) rfl (by conv => lhs; whnf) fun w'' hS' => ⟨_, _, rfl, ho, hS'⟩

end Go.Proofs.Ytnapfiheholhiaa
