/-
  The walk of the statement LienApart. Conditions: none.
-/
import Derived.Test.YtnapfiheholhiaaLAwake
set_option linter.unusedVariables false
set_option linter.unusedSimpArgs false
namespace Go.Proofs.Ytnapfiheholhiaa
open Go Go.RowKit Go.Proofs.YtnapfiheholhiaaSym

theorem encD_len (d : Deed) : (encDeed d).length = 8 := rfl
theorem encD_one (d : Deed) : (encDeed d).all oneV = true := rfl

/-! ### Thing by thing -/
theorem code_same {m m' : List Pledge} (hd : Doc m) (hd' : Doc m') {p : Pledge} (h : rowOf m p.thing = rowOf m' p.thing) (h1 : m.length < 4096) (h2 : m'.length < 4096) : code26 m p = code26 m' p := by
  rw [code_row hd, code_row hd', h, if_neg (show ¬ 4096 ≤ m.length by omega), if_neg (show ¬ 4096 ≤ m'.length by omega)]
theorem ans_row (m : List Pledge) (t u : ByteArray) (s : Int) : rowOf (payAns m t s).2.2.2 u = if u = t ∧ ¬ (s < 0 ∨ 1099511627776 < s) ∧ rowOf m t ≠ [] then (rowOf m t).filterMap (leftX (payE (rank26 m t) s).2.1) else rowOf m u := by
  unfold payAns
  by_cases h1 : s < 0 ∨ 1099511627776 < s
  · rw [if_pos h1, if_neg (fun h => h.2.1 h1)]
  · rw [if_neg h1]
    by_cases h2 : rowOf m t = []
    · rw [if_pos h2, if_neg (fun h => h.2.2 h2)]
    · rw [if_neg h2]
      show rowOf (pay26 m t s) u = _
      rw [rowOf_pay]
      by_cases h3 : u = t
      · rw [if_pos h3, if_pos ⟨h3, h1, h2⟩]
      · rw [if_neg h3, if_neg (fun h => h3 h.1)]
theorem deed_same {m m' : List Pledge} (hd : Doc m) (hd' : Doc m') {t : ByteArray} (d : Deed) (ht : d.p.thing = t) (h : rowOf m t = rowOf m' t) (h1 : m.length < 4096) (h2 : m'.length < 4096) : rowOf (docDeed m d) t = rowOf (docDeed m' d) t := by
  subst ht
  unfold docDeed
  split
  · have hc := code_same hd hd' h h1 h2
    unfold pledge26
    rw [← hc]
    split
    · rw [rowOf_pledge, rowOf_pledge, h]
    · exact h
  · split
    · rw [rowOf_rel, rowOf_rel, h]
    · split
      · rw [ans_row, ans_row, rank26, rank26, h]
      · exact h
theorem deed_other {m : List Pledge} {t : ByteArray} (d : Deed) (ht : d.p.thing ≠ t) : rowOf (docDeed m d) t = rowOf m t := by
  unfold docDeed
  split
  · unfold pledge26
    split
    · rw [rowOf_pledge, if_neg ht]
    · rfl
  · split
    · rw [rowOf_rel, if_neg (fun e => ht e.symm)]
    · split
      · rw [ans_row, if_neg (fun e => ht e.1.symm)]
      · rfl
def ownDeeds (t : ByteArray) (ds : List Deed) : List Deed := ds.filter fun d => decide (d.p.thing = t)
theorem apart {t : ByteArray} : ∀ (ds : List Deed) (m m' : List Pledge), rowOf m t = rowOf m' t → Doc m → Doc m' → m.length + ds.length < 4096 → m'.length + ds.length < 4096 → rowOf (ds.foldl docDeed m) t = rowOf ((ownDeeds t ds).foldl docDeed m') t
  | [], m, m', h, _, _, _, _ => h
  | d :: r, m, m', h, hd, hd', h1, h2 => by
    simp only [List.length_cons] at h1 h2
    have l1 := deed_length m d
    have l2 := deed_length m' d
    rw [List.foldl_cons, ownDeeds, List.filter_cons]
    by_cases e : d.p.thing = t
    · rw [if_pos (by simp [e]), List.foldl_cons]
      exact apart r _ _ (deed_same hd hd' d e h (by omega) (by omega)) (hd.deed d) (hd'.deed d) (by omega) (by omega)
    · rw [if_neg (by simp [e])]
      exact apart r _ _ ((deed_other d e).trans h) (hd.deed d) hd' (by omega) (by omega)

theorem sameEq_calls (va vb : Value) (xs : List Pledge) (w : World) (hsa : Sl 6 encPledge w va xs) (hsb : Sl 6 encPledge w vb xs) (hx : xs.length ≤ 9223372036854775807) :
    Does Try.prog 15 [va, vb] w (Ret w (.bool true)) := by
  have := same_calls va vb xs xs w hsa hsb hx
  rwa [decide_eq_true rfl] at this

theorem grown_row (ds : List Deed) (t : ByteArray) : (rowOf (grownDoc ds) t).length ≤ ds.length := Nat.le_trans (rowOf_length _ _) (grown_length ds)

set_option maxHeartbeats 4000000 in
theorem Apart_calls (v : Value) (ds : List Deed) (t : ByteArray) (w : World) (hs : Sl 8 encDeed w v ds) (hx : ds.length ≤ 9223372036854775807) :
    Does Try.prog 4 [v, .string t] w (Ret w (.bool true)) := by
  have hheavy := fun w hs => heavy_calls v ds 20 w hs hx
  have hs0 := hs
  obtain ⟨a, c, rfl, hs⟩ := hs
  refine calls_J (ys := [.slice a ds.length c, .string t]) Try.func4 rfl Try.ntmps4 rfl ?_
  refine J.at_ (S := St w [] []) ?_ (St.start w)
  cases hh : heavyB ds 20 with
  | true =>
    rw [hh] at hheavy
    repeat' (first
      | refine JE.pure rfl rfl (by conv => lhs; whnf) rfl ?_
      | refine JE.skip rfl rfl ?_
      | with_reducible refine JE.sN ?_
      | with_reducible refine J.seq ?_
      | with_reducible refine J.region ?_
      | refine J.condT rfl ?_
      | refine J.condF rfl ?_
      | with_reducible refine J.skip ?_
      | with_reducible refine J.ret ?_
      | with_reducible refine JX.thenN ?_
      | with_reducible refine JX.thenR ?_
      | (refine JE.isF 10 ?_; refine JE.call rfl rfl (by repeat (first | exact NfL.nil rfl | apply NfL.cons (by exact rfl) (by conv => lhs; whnf))) rfl ?_; refine CallG.ret (fun w hS => awake_calls w) ?_)
      | (refine JE.isF 11 ?_; refine JE.call rfl rfl (by repeat (first | exact NfL.nil rfl | apply NfL.cons (by exact rfl) (by conv => lhs; whnf))) rfl ?_; refine CallG.ret (fun w hS => hheavy w (hs0.below hS.below)) ?_))
    all_goals exact fnQ_tmp (.inl rfl) rfl (by conv => lhs; whnf) fun w'' hS' => ⟨rfl, hS'.below⟩
  | false =>
    rw [hh] at hheavy
    obtain ⟨hl20, hfit⟩ := light_of hh
    have hown : rowOf (grownDoc ds) t = rowOf (grownDoc (ownDeeds t ds)) t := apart ds [] [] rfl Doc.nil Doc.nil (by simp; omega) (by simp; omega)
    have holen : (ownDeeds t ds).length ≤ 20 := Nat.le_trans (List.length_filter_le _ _) hl20
    have hofit : ∀ d ∈ ownDeeds t ds, Fits d.p := fun d hd => hfit d (List.mem_filter.1 hd).1
    have hrk : rank26 (grownDoc (ownDeeds t ds)) t = rank26 (grownDoc ds) t := by rw [rank26, rank26, hown]
    have hr1 := grown_row ds t
    have hr2 := grown_row (ownDeeds t ds) t
    have hrl : (rank26 (grownDoc ds) t).length ≤ 20 := by rw [rank_length]; omega
    have hsm : sortMost = 39 := rfl
    by_cases ht : 100 < t.size
    · skip
      repeat' (first
        | refine JE.pure rfl rfl (by conv => lhs; whnf) rfl ?_
        | (refine JE.kBin ?_; (refine JE.int rfl rfl rfl rfl rfl rfl ?_; with_reducible refine JE.waysD (fun _ => ?_) (fun _ => ?_)))
        | (refine JE.kBuiltin ?_; refine JE.lenStr rfl rfl rfl ?_)
        | with_reducible refine JE.sN ?_
        | with_reducible refine J.seq ?_
        | with_reducible refine J.region ?_
        | refine J.condT rfl ?_
        | refine J.condF rfl ?_
        | with_reducible refine J.skip ?_
        | with_reducible refine J.ret ?_
        | with_reducible refine JX.thenN ?_
        | with_reducible refine JX.thenR ?_
        | (refine JE.isF 10 ?_; refine JE.call rfl rfl (by repeat (first | exact NfL.nil rfl | apply NfL.cons (by exact rfl) (by conv => lhs; whnf))) rfl ?_; refine CallG.ret (fun w hS => awake_calls w) ?_)
        | (refine JE.isF 11 ?_; refine JE.call rfl rfl (by repeat (first | exact NfL.nil rfl | apply NfL.cons (by exact rfl) (by conv => lhs; whnf))) rfl ?_; refine CallG.ret (fun w hS => hheavy w (hs0.below hS.below)) ?_))
      all_goals first
        | (exfalso; omega)
        | exact fnQ_tmp (.inl rfl) rfl (by conv => lhs; whnf) fun w'' hS' => ⟨rfl, hS'.below⟩
    · skip
      repeat' (first
        | refine JE.pure rfl rfl (by conv => lhs; whnf) rfl ?_
        | (refine JE.kBin ?_; (refine JE.int rfl rfl rfl rfl rfl rfl ?_; with_reducible refine JE.waysD (fun _ => ?_) (fun _ => ?_)))
        | (refine JE.kBuiltin ?_; refine JE.lenStr rfl rfl rfl ?_)
        | with_reducible refine JE.sN ?_
        | with_reducible refine J.seq ?_
        | with_reducible refine J.region ?_
        | refine J.condT rfl ?_
        | refine J.condF rfl ?_
        | with_reducible refine J.skip ?_
        | with_reducible refine J.block ?_
        | with_reducible refine J.ret ?_
        | with_reducible refine JX.thenN ?_
        | with_reducible refine JX.thenR ?_
        | (refine JE.isF 10 ?_; refine JE.call rfl rfl (by repeat (first | exact NfL.nil rfl | apply NfL.cons (by exact rfl) (by conv => lhs; whnf))) rfl ?_; refine CallG.ret (fun w hS => awake_calls w) ?_)
        | (refine JE.isF 11 ?_; refine JE.call rfl rfl (by repeat (first | exact NfL.nil rfl | apply NfL.cons (by exact rfl) (by conv => lhs; whnf))) rfl ?_; refine CallG.ret (fun w hS => hheavy w (hs0.below hS.below)) ?_)
        | (refine JE.isF 12 ?_; refine JE.call rfl rfl (by repeat (first | exact NfL.nil rfl | apply NfL.cons (by exact rfl) (by conv => lhs; whnf))) rfl ?_; refine CallG.news (G := _) (fun w hS => grown_calls _ ds w (hs0.below hS.below) hfit (by omega)) ?_; rintro _ _ ⟨p, vm, l1, l2, rfl, rfl, hL, hm⟩; refine JE.perm (List.Perm.of_eq (List.append_assoc _ _ _)) ?_)
        | (refine JE.kBuildSlice ?_; refine JE.buildSlice0 rfl rfl (fun B0 _ => ?_)))
      all_goals first
        | (exfalso; omega)
        | skip
      refine J.loop (fun f w' => ∃ (k : Nat) (v8 : Value) (l8 : List (Nat × Obj)), k ≤ ds.length ∧ Own 8 encDeed 40 v8 (ownDeeds t (ds.take k)) l8 ∧
          Has f [(0, .slice a ds.length c), (1, .string t), (5, .pointer (some ⟨p, 0, none⟩)), (7, .bool true), (8, v8), (9, .int .i64 k)] ∧ St w [] (l8 ++ l1) w')
        (fun f _ => ds.length - (intOf (f 9)).toNat) (fun w' hS => ⟨0, _, [(B0, .cells #[] 40 (0, 0))], Nat.zero_le _, Own.empty, (by repeat' (first | exact trivial | refine And.intro (by rfl) ?_)), hS.sub (by repeat (first | exact List.Sublist.refl _ | exact List.nil_sublist _ | refine List.Sublist.append_left ?_ _ | exact List.sublist_append_left _ _ | apply List.Sublist.cons_cons | apply List.Sublist.cons | apply List.sublist_append_of_sublist_right))⟩) ?_
      rintro f w' ⟨k, v8, l8, hk, ho8, hf, hS⟩
      obtain ⟨g, rfl⟩ := hf.eq
      clear hf
      refine J.at_ ?_ hS
      by_cases hlt : k < ds.length
      · obtain ⟨B, off, rfl, hr⟩ := hs (by rintro rfl; simp at hlt)
        have hxk : ds[k]? = some ds[k] := List.getElem?_eq_getElem hlt
        have hft := filter_take (p := fun d : Deed => decide (d.p.thing = t)) hxk
        generalize ds[k] = d at hxk hft
        have hfl : (ownDeeds t (ds.take k)).length ≤ 20 := Nat.le_trans (List.length_filter_le _ _) (by simp; omega)
        repeat' (first
          | refine JE.pure rfl rfl (by conv => lhs; whnf) rfl ?_
          | (refine JE.kBin ?_; (refine JE.int rfl rfl rfl rfl rfl rfl ?_; with_reducible refine JE.waysD (fun _ => ?_) (fun _ => ?_)))
          | (refine JE.kBin ?_; refine JE.int rfl rfl rfl rfl (by rw [i64_id (by omega)]) rfl ?_)
          | (refine JE.kBin ?_; (refine JE.eqStr rfl rfl rfl rfl ?_; with_reducible refine JE.waysD (fun _ => ?_) (fun _ => ?_)))
          | (refine JE.kField ?_; refine JE.fieldAddr rfl rfl rfl ?_)
          | (refine JE.kBuiltin ?_; refine JE.lenSl rfl rfl rfl ?_)
          | (refine JE.kBuildSlice ?_; refine JE.buildSlice rfl rfl rfl (by conv => lhs; whnf) (by rfl) (by rfl) (by repeat (first | exact NfL.nil rfl | apply NfL.cons (by exact rfl) (by conv => lhs; whnf))) rfl (fun _ _ => ?_))
          | with_reducible refine JE.sN ?_
          | with_reducible refine JE.sX ?_
          | with_reducible refine J.seq ?_
          | with_reducible refine J.region ?_
          | refine J.condT rfl ?_
          | refine J.condF rfl ?_
          | with_reducible refine J.skip ?_
          | with_reducible refine J.exit ?_
          | with_reducible refine J.block ?_
          | with_reducible refine JX.thenN ?_
          | with_reducible refine JX.thenE ?_
          | with_reducible refine JX.blkS ?_
          | with_reducible refine JX.blkN ?_
          | (refine JE.kIndexAddr ?_; refine JE.indexAddr rfl rfl rfl (Int.natCast_nonneg _) (by omega) rfl ?_)
          | (refine JE.isLoadT 39 ?_; refine JE.loadRowC (o := 1) rfl rfl hr (by simp) hxk rfl rfl (fun h => by first | exact trivial | cases h) rfl ?_)
          | (refine JE.isLoadT 46 ?_; refine JE.loadRow rfl rfl hr (by simp) hxk rfl rfl (fun h => by first | exact trivial | cases h) rfl ?_)
          | (refine JE.kBuiltin ?_; refine JE.appendOwn rfl rfl rfl ((show Own 8 encDeed 40 _ _ _ from ho8)) (by repeat (first | exact Seg.head | exact Seg.all | exact Seg.one | apply Seg.tail | apply Seg.cons)) (fun _ => rfl) (fun _ => rfl) (fun w hS => sl_one encD_len d (hS.get (by repeat (first | exact In.head | refine In.tail ?_ | refine In.app ?_)))) (by (try simp only [List.length_cons, List.length_nil, List.length_append, List.length_drop, List.length_take, maxLen] at *); omega) (by (try simp only [List.length_cons, List.length_nil, List.length_append, List.length_drop, List.length_take, maxLen] at *); omega) (fun _ _ _ _ => trivial) rfl (fun _ _ _ => ?_)))
        all_goals first
          | (exfalso; omega)
          | (refine JX.round fun w'' hS' => ⟨⟨k + 1, _, _, hlt, ?_, (by repeat' (first | exact trivial | refine And.intro (by rfl) ?_)), hS'.sub (by repeat (first | exact List.Sublist.refl _ | exact List.nil_sublist _ | refine List.Sublist.append_left ?_ _ | exact List.sublist_append_left _ _ | apply List.Sublist.cons_cons | apply List.Sublist.cons | apply List.sublist_append_of_sublist_right))⟩, ?_⟩
             · rename_i h; rw [ownDeeds, hft, if_pos (by simpa using ‹_›)]; exact h
             · show ds.length - ((k : Int) + 1).toNat < ds.length - ((k : Int)).toNat
               omega)
          | (refine JX.round fun w'' hS' => ⟨⟨k + 1, v8, l8, hlt, by rw [ownDeeds, hft, if_neg (by simpa using ‹_›), List.append_nil]; exact ho8, (by repeat' (first | exact trivial | refine And.intro (by rfl) ?_)), hS'⟩, ?_⟩
             show ds.length - ((k : Int) + 1).toNat < ds.length - ((k : Int)).toNat
             omega)
      · have hk' : k = ds.length := by omega
        rw [hk', List.take_length] at ho8
        have hrank1 := fun w hw hn => rank_calls hL t (by omega) w hw hn
        have hfree1 := fun w hw hn => free_calls hL t w hw hn
        have hrank2 := fun (p2 : Nat) (l3 : List (Nat × Obj)) (hL2 : Lien p2 (grownDoc (ownDeeds t ds)) l3) w hw hn => rank_calls hL2 t (by omega) w hw hn
        have hfree2 := fun (p2 : Nat) (l3 : List (Nat × Obj)) (hL2 : Lien p2 (grownDoc (ownDeeds t ds)) l3) w hw hn => free_calls hL2 t w hw hn
        rw [hrk] at hrank2
        rw [← hown] at hfree2
        cases hfr : decide (rowOf (grownDoc ds) t = [])
        all_goals rw [hfr] at hfree1 hfree2
        all_goals skip
        repeat' (first
          | refine JE.pure rfl rfl (by conv => lhs; whnf) rfl ?_
          | (refine JE.kBin ?_; (refine JE.int rfl rfl rfl rfl rfl rfl ?_; with_reducible refine JE.waysD (fun _ => ?_) (fun _ => ?_)))
          | (refine JE.kBin ?_; refine JE.eqBool rfl rfl rfl (by conv => lhs; whnf) rfl ?_)
          | (refine JE.kBuiltin ?_; refine JE.lenSl rfl rfl rfl ?_)
          | with_reducible refine JE.sN ?_
          | with_reducible refine J.seq ?_
          | with_reducible refine J.region ?_
          | refine J.condT rfl ?_
          | refine J.condF rfl ?_
          | with_reducible refine J.skip ?_
          | with_reducible refine J.exit ?_
          | with_reducible refine J.block ?_
          | with_reducible refine J.ret ?_
          | with_reducible refine JX.thenN ?_
          | with_reducible refine JX.thenE ?_
          | with_reducible refine JX.blkS ?_
          | (refine JE.isF 12 ?_; refine JE.call rfl rfl (by repeat (first | exact NfL.nil rfl | apply NfL.cons (by exact rfl) (by conv => lhs; whnf))) rfl ?_; refine CallG.news (G := _) (fun w hS => grown_calls v8 (ownDeeds t ds) w (ho8.sl encD_len (hS.sub (l' := l8) (by repeat (first | exact List.Sublist.refl _ | exact List.nil_sublist _ | refine List.Sublist.append_left ?_ _ | exact List.sublist_append_left _ _ | apply List.Sublist.cons_cons | apply List.Sublist.cons | apply List.sublist_append_of_sublist_right))).own) hofit (by omega)) ?_; rintro _ _ ⟨p2, vm2, l3, l4, rfl, rfl, hL2, hm2⟩; refine JE.perm (List.Perm.of_eq (List.append_assoc _ _ _)) ?_)
          | (refine JE.isF 13 ?_; first | (refine JE.isArg0 61 ?_; refine JE.call rfl rfl (by repeat (first | exact NfL.nil rfl | apply NfL.cons (by exact rfl) (by conv => lhs; whnf))) rfl ?_; refine CallG.news (G := _) (fun w hS => hrank1 w (hS.sub (l' := l1) (by repeat (first | exact List.Sublist.refl _ | exact List.nil_sublist _ | refine List.Sublist.append_left ?_ _ | exact List.sublist_append_left _ _ | apply List.Sublist.cons_cons | apply List.Sublist.cons | apply List.sublist_append_of_sublist_right))).own (hS.sub (l' := l1) (by repeat (first | exact List.Sublist.refl _ | exact List.nil_sublist _ | refine List.Sublist.append_left ?_ _ | exact List.sublist_append_left _ _ | apply List.Sublist.cons_cons | apply List.Sublist.cons | apply List.sublist_append_of_sublist_right))).nodup) ?_; rintro v5 l5 ho5) | (refine JE.isArg0 64 ?_; refine JE.call rfl rfl (by repeat (first | exact NfL.nil rfl | apply NfL.cons (by exact rfl) (by conv => lhs; whnf))) rfl ?_; refine CallG.news (G := _) (fun w hS => hrank2 p2 l3 hL2 w (hS.sub (l' := l3) (by repeat (first | exact List.Sublist.refl _ | exact List.nil_sublist _ | refine List.Sublist.append_left ?_ _ | exact List.sublist_append_left _ _ | apply List.Sublist.cons_cons | apply List.Sublist.cons | apply List.sublist_append_of_sublist_right))).own (hS.sub (l' := l3) (by repeat (first | exact List.Sublist.refl _ | exact List.nil_sublist _ | refine List.Sublist.append_left ?_ _ | exact List.sublist_append_left _ _ | apply List.Sublist.cons_cons | apply List.Sublist.cons | apply List.sublist_append_of_sublist_right))).nodup) ?_; rintro v6 l6 ho6))
          | (refine JE.isF 15 ?_; refine JE.call rfl rfl (by repeat (first | exact NfL.nil rfl | apply NfL.cons (by exact rfl) (by conv => lhs; whnf))) rfl ?_; refine CallG.ret (fun w hS => sameEq_calls _ _ _ w (ho5.sl encP_len (hS.sub (l' := l5) (by repeat (first | exact List.Sublist.refl _ | exact List.nil_sublist _ | refine List.Sublist.append_left ?_ _ | exact List.sublist_append_left _ _ | apply List.Sublist.cons_cons | apply List.Sublist.cons | apply List.sublist_append_of_sublist_right))).own) (ho6.sl encP_len (hS.sub (l' := l6) (by repeat (first | exact List.Sublist.refl _ | exact List.nil_sublist _ | refine List.Sublist.append_left ?_ _ | exact List.sublist_append_left _ _ | apply List.Sublist.cons_cons | apply List.Sublist.cons | apply List.sublist_append_of_sublist_right))).own) (by omega)) ?_)
          | (refine JE.isF 16 ?_; first | (refine JE.isArg0 70 ?_; refine JE.call rfl rfl (by repeat (first | exact NfL.nil rfl | apply NfL.cons (by exact rfl) (by conv => lhs; whnf))) rfl ?_; refine CallG.ret (fun w hS => hfree1 w (hS.sub (l' := l1) (by repeat (first | exact List.Sublist.refl _ | exact List.nil_sublist _ | refine List.Sublist.append_left ?_ _ | exact List.sublist_append_left _ _ | apply List.Sublist.cons_cons | apply List.Sublist.cons | apply List.sublist_append_of_sublist_right))).own (hS.sub (l' := l1) (by repeat (first | exact List.Sublist.refl _ | exact List.nil_sublist _ | refine List.Sublist.append_left ?_ _ | exact List.sublist_append_left _ _ | apply List.Sublist.cons_cons | apply List.Sublist.cons | apply List.sublist_append_of_sublist_right))).nodup) ?_) | (refine JE.isArg0 73 ?_; refine JE.call rfl rfl (by repeat (first | exact NfL.nil rfl | apply NfL.cons (by exact rfl) (by conv => lhs; whnf))) rfl ?_; refine CallG.ret (fun w hS => hfree2 p2 l3 hL2 w (hS.sub (l' := l3) (by repeat (first | exact List.Sublist.refl _ | exact List.nil_sublist _ | refine List.Sublist.append_left ?_ _ | exact List.sublist_append_left _ _ | apply List.Sublist.cons_cons | apply List.Sublist.cons | apply List.sublist_append_of_sublist_right))).own (hS.sub (l' := l3) (by repeat (first | exact List.Sublist.refl _ | exact List.nil_sublist _ | refine List.Sublist.append_left ?_ _ | exact List.sublist_append_left _ _ | apply List.Sublist.cons_cons | apply List.Sublist.cons | apply List.sublist_append_of_sublist_right))).nodup) ?_)))
        all_goals first
          | (exfalso; omega)
          | exact fnQ_tmp (.inl rfl) rfl (by conv => lhs; whnf) fun w'' hS' => ⟨rfl, hS'.below⟩

end Go.Proofs.Ytnapfiheholhiaa
