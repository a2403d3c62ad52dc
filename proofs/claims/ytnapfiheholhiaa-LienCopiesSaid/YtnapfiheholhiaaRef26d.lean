/-
  The walks of the document's own code of layer 26: what is paid. Conditions: none.
-/
import Derived.Test.YtnapfiheholhiaaRef26c
set_option linter.unusedVariables false
set_option linter.unusedSimpArgs false
namespace Go.Proofs.Ytnapfiheholhiaa
open Go Go.RowKit Go.Proofs.YtnapfiheholhiaaSym

theorem payE_snoc : ∀ (r : List Pledge) (s : Int) (p : Pledge), payE (r ++ [p]) s =
    if 0 < min (payE r s).2.2 p.amount then ((payE r s).1 ++ [⟨p.creditor, ByteArray.empty, min (payE r s).2.2 p.amount⟩], (payE r s).2.1 ++ [(p.creditor, min (payE r s).2.2 p.amount)], (payE r s).2.2 - min (payE r s).2.2 p.amount) else payE r s
  | [], s, p => by simp only [List.nil_append, payE]; rfl
  | q :: r, s, p => by
    simp only [List.cons_append, payE]
    split
    · rw [payE_snoc r _ p]
      split <;> simp
    · exact payE_snoc r s p
theorem payE_rest : ∀ (r : List Pledge) (s : Int), 0 ≤ s → (∀ p ∈ r, 0 < p.amount) → 0 ≤ (payE r s).2.2 ∧ (payE r s).2.2 ≤ s
  | [], s, h, _ => ⟨h, Int.le_refl _⟩
  | p :: r, s, h, hp => by
    simp only [payE]
    have h1 := hp p List.mem_cons_self
    split
    · have h2 : min s p.amount ≤ s := Int.min_le_left _ _
      generalize min s p.amount = n at *
      have := payE_rest r (s - n) (by omega) fun q hq => hp q (List.mem_cons_of_mem _ hq)
      exact ⟨this.1, by show (payE r (s - n)).2.2 ≤ s; omega⟩
    · exact payE_rest r s h fun q hq => hp q (List.mem_cons_of_mem _ hq)
theorem payE_len : ∀ (r : List Pledge) (s : Int), (payE r s).1.length ≤ r.length
  | [], _ => by simp [payE]
  | p :: r, s => by
    simp only [payE]
    split
    · have := payE_len r (s - min s p.amount); simp only [List.length_cons]; omega
    · have := payE_len r s; simp only [List.length_cons]; omega
/-- The list behind the first k of the rank. -/
theorem pay_part {m : List Pledge} (h : Doc m) (t : ByteArray) (s : Int) (k : Nat) : (payE ((rank26 m t).take k) s).2.1.foldl (fun m y => less t y.1 y.2 m) m = m.filterMap (payX t (payE ((rank26 m t).take k) s).2.1) := by
  refine less_fold _ m (payE_nodup _ _ ((h.rankCreditor t).sublist (List.take_sublist _ _))) h.pos fun y hy x hx h1 h2 => ?_
  obtain ⟨p, hp, e1, e2, _⟩ := payE_most _ _ y hy
  obtain ⟨hp1, hp2⟩ := Doc.rankMem (List.mem_of_mem_take hp)
  have : x = p := h.same hx hp1 (h1.trans hp2.symm) (h2.trans e1.symm)
  rw [this]; exact e2
theorem pay_partDoc {m : List Pledge} (h : Doc m) (t : ByteArray) (s : Int) (k : Nat) : Doc ((payE ((rank26 m t).take k) s).2.1.foldl (fun m y => less t y.1 y.2 m) m) := by
  rw [pay_part h]; exact h.payD fun y hy => (payE_most _ _ y hy).choose_spec.2.2.2

theorem filterMap_take {α β : Type} {p : α → Option β} {m : List α} {k : Nat} {x : α} (hx : m[k]? = some x) : (m.take (k + 1)).filterMap p = (m.take k).filterMap p ++ (match p x with | some y => [y] | none => []) := by
  rw [List.take_add_one, hx, List.filterMap_append]
  congr 1
  cases h : p x <;> simp [h]

theorem lessX_none {t c : ByteArray} {n : Int} {x : Pledge} (h1 : x.thing = t) (h2 : x.creditor = c) (h3 : x.amount - n = 0) : lessX t c n x = none := by rw [lessX, if_pos ⟨h1, h2⟩, if_pos h3]
theorem lessX_some {t c : ByteArray} {n : Int} {x : Pledge} (h1 : x.thing = t) (h2 : x.creditor = c) (h3 : ¬ x.amount - n = 0) : lessX t c n x = some { x with amount := x.amount - n } := by rw [lessX, if_pos ⟨h1, h2⟩, if_neg h3]
theorem lessX_skip {t c : ByteArray} {n : Int} {x : Pledge} (h : ¬ (x.thing = t ∧ x.creditor = c)) : lessX t c n x = some x := by rw [lessX, if_neg h]

set_option maxHeartbeats 8000000 in
theorem refPay_calls (vm : Value) (m : List Pledge) (t : ByteArray) (s : Int) (w : World) (hs : Sl 6 encPledge w vm m) (hd : Doc m) (h0 : 0 ≤ s) (h1 : s ≤ 1099511627776) :
    Does Try.prog 44 [vm, .string t, .int .i64 s] w (RetN w fun u ln => ∃ v1 v3 l1 l3, u = .tuple #[v1, .int .i64 (payE (rank26 m t) s).2.2, v3] ∧ ln = l1 ++ l3 ∧ Own 3 encEntry 35 v1 (payE (rank26 m t) s).1 l1 ∧ Back vm m (pay26 m t s) v3 l3) := by
  have hs0 := hs
  have hml := hd.size
  have hC := fun w hw => refRank_calls vm m t w hw hml
  rw [show sortB refLt (rowOf m t) = rank26 m t from refRank_eq hd t] at hC
  have hrl : (rank26 m t).length ≤ 4096 := by rw [rank_length]; exact Nat.le_trans (rowOf_length _ _) hml
  have hramt : ∀ p ∈ rank26 m t, 0 < p.amount ∧ p.amount ≤ 1099511627776 := fun p hp => by
    have := (may_of (hd.may p (Doc.rankMem hp).1)).2.2.2.2; omega
  have hpart := pay_partDoc hd t s
  have hfold := pay_fold hd t s
  obtain ⟨r, hreq⟩ : ∃ r, r = rank26 m t := ⟨_, rfl⟩
  rw [← hreq] at hC hrl hramt hfold
  rw [← hreq]
  rw [← hreq] at hpart
  obtain ⟨a, cp, rfl, hs⟩ := hs
  refine calls_J (ys := [.slice a m.length cp, .string t, .int .i64 s]) Try.func44 rfl Try.ntmps44 rfl ?_
  refine J.at_ (S := St w [] []) ?_ (St.start w)
  repeat' (first
    | refine JE.pure rfl rfl (by conv => lhs; whnf) rfl ?_
    | with_reducible refine JE.sN ?_
    | with_reducible refine J.seq ?_
    | with_reducible refine J.region ?_
    | with_reducible refine J.block ?_
    | (refine JE.isF 41 ?_; refine JE.call rfl rfl (by repeat (first | exact NfL.nil rfl | apply NfL.cons (by exact rfl) (by conv => lhs; whnf))) rfl ?_; refine CallG.news (G := _) (fun w hS => hC w (hs0.below hS.below)) ?_; rintro v9 l9 ho9)
    | (refine JE.kBuildSlice ?_; refine JE.buildSlice0 rfl rfl (fun _ _ => ?_)))
  refine J.loop (fun f w' => ∃ (k : Nat) (vc v10 : Value) (lc l10 : List (Nat × Obj)), k ≤ r.length ∧ Back (.slice a m.length cp) m ((payE (r.take k) s).2.1.foldl (fun m y => less t y.1 y.2 m) m) vc lc ∧ Own 3 encEntry 35 v10 (payE (r.take k) s).1 l10 ∧
      Has f [(0, vc), (1, .string t), (2, .int .i64 (payE (r.take k) s).2.2), (9, v9), (10, v10), (11, .int .i64 k)] ∧ St w [] (l10 ++ (lc ++ l9)) w')
    (fun f _ => r.length - (intOf (f 11)).toNat) (fun w' hS => ⟨0, _, _, [], _, Nat.zero_le _, .inl ⟨rfl, rfl, rfl⟩, Own.empty, (by repeat' (first | exact trivial | refine And.intro (by rfl) ?_)), by simpa using hS⟩) ?_
  rintro f w' ⟨k, vc, v10, lc, l10, hk, hbk, ho10, hf, hS⟩
  obtain ⟨g, rfl⟩ := hf.eq
  clear hf
  refine J.at_ ?_ hS
  obtain ⟨a9, c9, rfl, _⟩ := ho9.shape
  have hsl9 : ∀ w', St w [] l9 w' → Sl 6 encPledge w' (.slice a9 r.length c9) r := fun w' hS => ho9.sl encP_len hS.own
  by_cases hlt : k < r.length
  · have hxk : r[k]? = some r[k] := List.getElem?_eq_getElem hlt
    have htk : r.take (k + 1) = r.take k ++ [r[k]] := by rw [List.take_add_one, hxk]; rfl
    have hmem : r[k] ∈ r := List.getElem_mem hlt
    generalize r[k] = p at hxk htk hmem
    have hsn := payE_snoc (r.take k) s p
    rw [← htk] at hsn
    have hrest := payE_rest (r.take k) s h0 fun q hq => (hramt q (List.mem_of_mem_take hq)).1
    have hlen := payE_len (r.take k) s
    have hdoc := hpart k
    have hamt := hramt p hmem
    obtain ⟨E, hE⟩ : ∃ E, E = (payE (r.take k) s).1 := ⟨_, rfl⟩
    obtain ⟨G, hG⟩ : ∃ G, G = (payE (r.take k) s).2.1 := ⟨_, rfl⟩
    obtain ⟨s', hs'⟩ : ∃ s', s' = (payE (r.take k) s).2.2 := ⟨_, rfl⟩
    rw [← hE, ← hG, ← hs'] at hsn
    rw [← hs'] at hrest
    rw [← hE] at hlen ho10
    rw [← hG] at hdoc hbk
    obtain ⟨mc, hmc⟩ : ∃ mc, mc = G.foldl (fun m y => less t y.1 y.2 m) m := ⟨_, rfl⟩
    rw [← hmc] at hdoc hbk
    rw [← hs']
    obtain ⟨B9, off9, rfl⟩ : ∃ B off, a9 = some ⟨B, off, none⟩ := by
      obtain ⟨a', c', e1, h2⟩ := hsl9 _ (hS.sub (by repeat (first | exact List.Sublist.refl _ | exact List.nil_sublist _ | refine List.Sublist.append_left ?_ _ | exact List.sublist_append_left _ _ | apply List.Sublist.cons_cons | apply List.Sublist.cons | apply List.sublist_append_of_sublist_right)))
      obtain ⟨B, off, e2, _⟩ := h2 (by rintro rfl; simp at hxk)
      simp only [Value.slice.injEq] at e1
      exact ⟨B, off, e1.1.trans e2⟩
    have hr9 := rows_of hsl9 (by rintro rfl; simp at hxk)
    by_cases hz : s' = 0
    · subst hz
      rw [if_neg (by simp; omega)] at hsn
      repeat' (first
        | refine JE.pure rfl rfl (by conv => lhs; whnf) rfl ?_
        | (refine JE.kBin ?_; (refine JE.int rfl rfl rfl rfl rfl rfl ?_; with_reducible refine JE.waysD (fun _ => ?_) (fun _ => ?_)))
        | (refine JE.kBin ?_; refine JE.int rfl rfl rfl rfl (by rw [i64_id (by omega)]) rfl ?_)
        | (refine JE.kField ?_; refine JE.fieldAddr rfl rfl rfl ?_)
        | (refine JE.kBuiltin ?_; refine JE.lenSl rfl rfl rfl ?_)
        | (refine JE.kBuild ?_; refine JE.build rfl rfl (by repeat (first | exact NfL.nil rfl | apply NfL.cons (by exact rfl) (by conv => lhs; whnf))) rfl ?_)
        | (refine JE.kBuildSlice ?_; refine JE.buildSlice rfl rfl rfl (by conv => lhs; whnf) (by rfl) (by rfl) (by repeat (first | exact NfL.nil rfl | apply NfL.cons (by exact rfl) (by conv => lhs; whnf))) rfl (fun _ _ => ?_))
        | with_reducible refine JE.sN ?_
        | with_reducible refine JE.sX ?_
        | with_reducible refine J.seq ?_
        | with_reducible refine J.region ?_
        | refine J.condT rfl ?_
        | refine J.condF rfl ?_
        | with_reducible refine J.skip ?_
        | with_reducible refine J.exit ?_
        | with_reducible refine J.block ?_
        | with_reducible refine J.ret ?_
        | with_reducible refine JX.thenN ?_
        | with_reducible refine JX.thenE ?_
        | with_reducible refine JX.blkS ?_
        | (refine JE.kIndexAddr ?_; refine JE.indexAddr rfl rfl rfl (Int.natCast_nonneg _) (by omega) rfl ?_)
        | (refine JE.kLoad ?_; refine JE.loadRowCS rfl rfl (fun w' hS' => hr9 w' (hS'.sub (by repeat (first | exact List.Sublist.refl _ | exact List.nil_sublist _ | refine List.Sublist.append_left ?_ _ | exact List.sublist_append_left _ _ | apply List.Sublist.cons_cons | apply List.Sublist.cons | apply List.sublist_append_of_sublist_right)))) hxk rfl rfl (fun h => by first | exact trivial | cases h) rfl ?_))
      all_goals first
        | (exfalso; omega)
        | contradiction
        | (refine JX.round fun w'' hS' => ⟨⟨k + 1, vc, v10, lc, l10, hlt, by rw [hsn, ← hG, ← hmc]; exact hbk, by rw [hsn, ← hE]; exact ho10, by rw [hsn, ← hs']; exact (by repeat' (first | exact trivial | refine And.intro (by rfl) ?_)), hS'⟩, ?_⟩
           show r.length - ((k : Int) + 1).toNat < r.length - ((k : Int)).toNat
           omega)
    · obtain ⟨ac, cc, rfl⟩ : ∃ a c, vc = .slice a mc.length c := by
        rcases hbk with ⟨rfl, e, _⟩ | ho
        · exact ⟨a, cp, by rw [e]⟩
        · exact ho.byLen
      have hslc : ∀ w', St w [] lc w' → Sl 6 encPledge w' (.slice ac mc.length cc) mc := fun w' hS => by
        rcases hbk with ⟨e1, e2, _⟩ | ho
        · rw [e1, e2]; exact hs0.below hS.below
        · exact ho.sl encP_len hS.own
      have hmcl := hdoc.size
      have hel : E.length + 1 ≤ 4096 := by rw [List.length_take] at hlen; omega
      by_cases hsa : s' < p.amount
      · have hmin : min s' p.amount = s' := Int.min_eq_left (by omega)
        have hn0 : 0 < s' := by omega
        have hnl : s' ≤ 1099511627776 := by omega
        have hdone : payE (r.take (k + 1)) s = (E ++ [⟨p.creditor, ByteArray.empty, s'⟩], G ++ [(p.creditor, s')], s' - s') := by rw [hsn, hmin, if_pos hn0]
        have hmc2 : (G ++ [(p.creditor, s')]).foldl (fun m y => less t y.1 y.2 m) m = less t p.creditor s' mc := by rw [List.foldl_append, ← hmc]; rfl
        repeat' (first
          | refine JE.pure rfl rfl (by conv => lhs; whnf) rfl ?_
          | (refine JE.kBin ?_; (refine JE.int rfl rfl rfl rfl rfl rfl ?_; with_reducible refine JE.waysD (fun _ => ?_) (fun _ => ?_)))
          | (refine JE.kBin ?_; refine JE.int rfl rfl rfl rfl (by rw [i64_id (by omega)]) rfl ?_)
          | (refine JE.kField ?_; refine JE.fieldAddr rfl rfl rfl ?_)
          | (refine JE.kBuiltin ?_; refine JE.lenSl rfl rfl rfl ?_)
          | (refine JE.kBuild ?_; refine JE.build rfl rfl (by repeat (first | exact NfL.nil rfl | apply NfL.cons (by exact rfl) (by conv => lhs; whnf))) rfl ?_)
          | (refine JE.kBuildSlice ?_; refine JE.buildSlice rfl rfl rfl (by conv => lhs; whnf) (by rfl) (by rfl) (by repeat (first | exact NfL.nil rfl | apply NfL.cons (by exact rfl) (by conv => lhs; whnf))) rfl (fun _ _ => ?_))
          | with_reducible refine JE.sN ?_
          | with_reducible refine JE.sX ?_
          | with_reducible refine J.seq ?_
          | with_reducible refine J.region ?_
          | refine J.condT rfl ?_
          | refine J.condF rfl ?_
          | with_reducible refine J.skip ?_
          | with_reducible refine J.exit ?_
          | with_reducible refine J.block ?_
          | with_reducible refine J.ret ?_
          | with_reducible refine JX.thenN ?_
          | with_reducible refine JX.thenE ?_
          | with_reducible refine JX.blkS ?_
          | (refine JE.kIndexAddr ?_; refine JE.indexAddr rfl rfl rfl (Int.natCast_nonneg _) (by omega) rfl ?_)
          | (refine JE.kLoad ?_; refine JE.loadRowCS rfl rfl (fun w' hS' => hr9 w' (hS'.sub (by repeat (first | exact List.Sublist.refl _ | exact List.nil_sublist _ | refine List.Sublist.append_left ?_ _ | exact List.sublist_append_left _ _ | apply List.Sublist.cons_cons | apply List.Sublist.cons | apply List.sublist_append_of_sublist_right)))) hxk rfl rfl (fun h => by first | exact trivial | cases h) rfl ?_)
          | (refine JE.kBuiltin ?_; refine JE.appendOwn rfl rfl rfl ((show Own 3 encEntry 35 _ _ _ from ho10)) (by repeat (first | exact Seg.head | exact Seg.all | exact Seg.one | apply Seg.tail | apply Seg.cons)) (fun _ => rfl) (fun _ => rfl) (fun w hS => sl_one (enc := encEntry) (k := 3) (fun _ => rfl) (⟨p.creditor, ByteArray.empty, s'⟩ : Entry) (hS.get (by repeat (first | exact In.head | refine In.tail ?_ | refine In.app ?_)))) (by (try simp only [List.length_cons, List.length_nil, List.length_append, List.length_drop, List.length_take, maxLen] at *); omega) (by (try simp only [List.length_cons, List.length_nil, List.length_append, List.length_drop, List.length_take, maxLen] at *); omega) (fun _ _ _ _ => trivial) rfl (fun _ _ _ => ?_))
          | (refine JE.kBuildSlice ?_; refine JE.buildSlice0 rfl rfl (fun _ _ => ?_)))
        all_goals first
          | (exfalso; omega)
          | skip
        rename_i v10n l10n ho10n B13 hB13
        refine J.loop (fun f w' => ∃ (j : Nat) (v13 : Value) (l13 : List (Nat × Obj)), j ≤ mc.length ∧ Own 6 encPledge 37 v13 ((mc.take j).filterMap (lessX t p.creditor s')) l13 ∧ Has f [(0, .slice ac mc.length cc), (1, .string t), (2, .int .i64 (s' - s')), (9, .slice (some ⟨B9, off9, none⟩) r.length c9), (10, v10n), (11, .int .i64 k), (12, .int .i64 s'), (13, v13), (14, .int .i64 j)] ∧ St w [] (l13 ++ (l10n ++ (lc ++ l9))) w')
          (fun f _ => mc.length - (intOf (f 14)).toNat) (fun w' hS => ⟨0, _, [(B13, .cells #[] 37 (0, 0))], Nat.zero_le _, Own.empty, (by repeat' (first | exact trivial | refine And.intro (by rfl) ?_)), hS.sub (by repeat (first | exact List.Sublist.refl _ | exact List.nil_sublist _ | refine List.Sublist.append_left ?_ _ | exact List.sublist_append_left _ _ | apply List.Sublist.cons_cons | apply List.Sublist.cons | apply List.sublist_append_of_sublist_right))⟩) ?_
        rintro f w' ⟨j, v13, l13, hj, ho13, hf, hS⟩
        obtain ⟨g, rfl⟩ := hf.eq
        clear hf
        refine J.at_ ?_ hS
        by_cases hjl : j < mc.length
        · have hxj : mc[j]? = some mc[j] := List.getElem?_eq_getElem hjl
          have hxa := (may_of (hdoc.may mc[j] (List.getElem_mem hjl))).2.2.2.2
          generalize mc[j] = x at hxj hxa
          have hnext := filterMap_take (p := lessX t p.creditor s') hxj
          obtain ⟨Bc, offc, rfl⟩ : ∃ B off, ac = some ⟨B, off, none⟩ := by
            obtain ⟨a', c', e1, h2⟩ := hslc _ (hS.sub (by repeat (first | exact List.Sublist.refl _ | exact List.nil_sublist _ | refine List.Sublist.append_left ?_ _ | exact List.sublist_append_left _ _ | apply List.Sublist.cons_cons | apply List.Sublist.cons | apply List.sublist_append_of_sublist_right)))
            obtain ⟨B, off, e2, _⟩ := h2 (by intro e; rw [e] at hxj; simp at hxj)
            simp only [Value.slice.injEq] at e1
            exact ⟨B, off, e1.1.trans e2⟩
          have hrc := rows_of hslc (by intro e; rw [e] at hxj; simp at hxj)
          have hfl : ((mc.take j).filterMap (lessX t p.creditor s')).length ≤ j := Nat.le_trans (List.length_filterMap_le _ _) (by simp; omega)
          repeat' (first
            | refine JE.pure rfl rfl (by conv => lhs; whnf) rfl ?_
            | refine JE.skip rfl rfl ?_
            | (refine JE.kBin ?_; (refine JE.int rfl rfl rfl rfl rfl rfl ?_; with_reducible refine JE.waysD (fun _ => ?_) (fun _ => ?_)))
            | (refine JE.kBin ?_; refine JE.int rfl rfl rfl rfl (by rw [i64_id (by omega)]) rfl ?_)
            | (refine JE.kBin ?_; (refine JE.eqStr rfl rfl rfl rfl ?_; with_reducible refine JE.waysD (fun _ => ?_) (fun _ => ?_)))
            | (refine JE.kField ?_; refine JE.fieldAddr rfl rfl rfl ?_)
            | (refine JE.kLoad ?_; refine JE.load1 rfl rfl (by repeat (first | exact In.head | refine In.tail ?_ | refine In.app ?_)) rfl (by conv => lhs; whnf) (fun _ => by first | trivial | exact ⟨.inr ‹_›, trivial⟩ | exact ⟨.inl (by kernel_rfl), trivial⟩ | exact ⟨.inr ‹_›, .inr ‹_›, trivial⟩ | exact ⟨.inr ‹_›, .inl (by kernel_rfl), trivial⟩ | exact ⟨.inl (by kernel_rfl), .inr ‹_›, trivial⟩ | exact ⟨.inl (by kernel_rfl), .inl (by kernel_rfl), trivial⟩) rfl ?_)
            | (refine JE.kLoad ?_; refine JE.loadAll rfl rfl (by repeat (first | exact In.head | refine In.tail ?_ | refine In.app ?_)) (by rfl) (fun _ => by first | trivial | exact ⟨.inr ‹_›, trivial⟩ | exact ⟨.inl (by kernel_rfl), trivial⟩ | exact ⟨.inr ‹_›, .inr ‹_›, trivial⟩ | exact ⟨.inr ‹_›, .inl (by kernel_rfl), trivial⟩ | exact ⟨.inl (by kernel_rfl), .inr ‹_›, trivial⟩ | exact ⟨.inl (by kernel_rfl), .inl (by kernel_rfl), trivial⟩) rfl ?_)
            | (refine JE.kAlloc ?_; refine JE.alloc rfl (by conv => lhs; whnf) rfl (fun _ _ => ?_))
            | (refine JE.kStore ?_; refine JE.store rfl rfl (by repeat (first | exact Turn.head | apply Turn.tail | apply Turn.app)) SizeT.size (by repeat (first | exact NfL.nil rfl | apply NfL.cons (by exact rfl) (by conv => lhs; whnf))) (by rfl) (by rfl) (by rfl) (by repeat (first | exact NfL.nil rfl | apply NfL.cons (by exact rfl) (by conv => lhs; whnf))) (by first | trivial | exact List.mem_cons_self | exact List.mem_cons_of_mem _ List.mem_cons_self) rfl ?_)
            | (refine JE.kBuiltin ?_; refine JE.lenSl rfl rfl rfl ?_)
            | (refine JE.kBuildSlice ?_; refine JE.buildSlice rfl rfl rfl (by conv => lhs; whnf) (by rfl) (by rfl) (by repeat (first | exact NfL.nil rfl | apply NfL.cons (by exact rfl) (by conv => lhs; whnf))) rfl (fun _ _ => ?_))
            | with_reducible refine JE.sN ?_
            | with_reducible refine JE.sX ?_
            | with_reducible refine JE.dN ?_
            | with_reducible refine J.seq ?_
            | with_reducible refine J.region ?_
            | refine J.condT rfl ?_
            | refine J.condF rfl ?_
            | with_reducible refine J.skip ?_
            | with_reducible refine J.exit ?_
            | with_reducible refine J.block ?_
            | with_reducible refine JX.thenN ?_
            | with_reducible refine JX.thenE ?_
            | with_reducible refine JX.blkS ?_
            | with_reducible refine JX.blkN ?_
            | (refine J.isR 17 ?_; refine J.draw [(0, true), (1, true), (2, true), (3, true), (4, true), (5, true), (6, true), (7, true), (8, true), (9, true), (10, true), (11, true), (12, true), (13, true)] [] mixed (by kernel_rfl) (fun _ h => h.drew) ?_)
            | (refine JE.kIndexAddr ?_; refine JE.indexAddr rfl rfl rfl (Int.natCast_nonneg _) (by omega) rfl ?_)
            | (refine JE.isLoadT 71 ?_; refine JE.loadRowCS rfl rfl (fun w' hS' => hr9 w' (hS'.sub (by repeat (first | exact List.Sublist.refl _ | exact List.nil_sublist _ | refine List.Sublist.append_left ?_ _ | exact List.sublist_append_left _ _ | apply List.Sublist.cons_cons | apply List.Sublist.cons | apply List.sublist_append_of_sublist_right)))) hxk rfl rfl (fun h => by first | exact trivial | cases h) rfl ?_)
            | (refine JE.isLoadT 59 ?_; refine JE.loadRowS rfl rfl (fun w' hS' => hrc w' (hS'.sub (by repeat (first | exact List.Sublist.refl _ | exact List.nil_sublist _ | refine List.Sublist.append_left ?_ _ | exact List.sublist_append_left _ _ | apply List.Sublist.cons_cons | apply List.Sublist.cons | apply List.sublist_append_of_sublist_right)))) hxj rfl rfl (fun h => by first | exact trivial | cases h) rfl ?_)
            | (refine JE.kBuiltin ?_; refine JE.appendOwn rfl rfl rfl ((show Own 6 encPledge 37 _ _ _ from ho13)) (by repeat (first | exact Seg.head | exact Seg.all | exact Seg.one | apply Seg.tail | apply Seg.cons)) (fun _ => rfl) (fun _ => rfl) (fun w hS => sl_one encP_len x (hS.get (by repeat (first | exact In.head | refine In.tail ?_ | refine In.app ?_)))) (by (try simp only [List.length_cons, List.length_nil, List.length_append, List.length_drop, List.length_take, maxLen] at *); omega) (by (try simp only [List.length_cons, List.length_nil, List.length_append, List.length_drop, List.length_take, maxLen] at *); omega) (fun _ _ _ _ => trivial) rfl (fun _ _ _ => ?_))
            | (refine JE.kBuiltin ?_; refine JE.appendOwn rfl rfl rfl ((show Own 6 encPledge 37 _ _ _ from ho13)) (by repeat (first | exact Seg.head | exact Seg.all | exact Seg.one | apply Seg.tail | apply Seg.cons)) (fun _ => rfl) (fun _ => rfl) (fun w hS => sl_one encP_len { x with amount := x.amount - s' } (hS.get (by repeat (first | exact In.head | refine In.tail ?_ | refine In.app ?_)))) (by (try simp only [List.length_cons, List.length_nil, List.length_append, List.length_drop, List.length_take, maxLen] at *); omega) (by (try simp only [List.length_cons, List.length_nil, List.length_append, List.length_drop, List.length_take, maxLen] at *); omega) (fun _ _ _ _ => trivial) rfl (fun _ _ _ => ?_)))
          all_goals first
            | (exfalso; omega)
            | (refine JX.round fun w'' hS' => ⟨⟨j + 1, v13, l13, hjl, by rw [hnext, lessX_none ‹_› ‹_› ‹_›, List.append_nil]; exact ho13, (by repeat' (first | exact trivial | refine And.intro (by rfl) ?_)), hS'.sub (by repeat (first | exact List.Sublist.refl _ | exact List.nil_sublist _ | refine List.Sublist.append_left ?_ _ | exact List.sublist_append_left _ _ | apply List.Sublist.cons_cons | apply List.Sublist.cons | apply List.sublist_append_of_sublist_right))⟩, ?_⟩
               show mc.length - ((j : Int) + 1).toNat < mc.length - ((j : Int)).toNat
               omega)
            | (rename_i hown
               refine JX.round fun w'' hS' => ⟨⟨j + 1, _, _, hjl, by rw [hnext, lessX_some ‹_› ‹_› ‹_›]; exact hown, (by repeat' (first | exact trivial | refine And.intro (by rfl) ?_)), hS'.sub (by repeat (first | exact List.Sublist.refl _ | exact List.nil_sublist _ | refine List.Sublist.append_left ?_ _ | exact List.sublist_append_left _ _ | apply List.Sublist.cons_cons | apply List.Sublist.cons | apply List.sublist_append_of_sublist_right))⟩, ?_⟩
               show mc.length - ((j : Int) + 1).toNat < mc.length - ((j : Int)).toNat
               omega)
            | (rename_i hown
               refine JX.round fun w'' hS' => ⟨⟨j + 1, _, _, hjl, by rw [hnext, lessX_skip (by first | exact fun h => absurd h.1 ‹_› | exact fun h => absurd h.2 ‹_›)]; exact hown, (by repeat' (first | exact trivial | refine And.intro (by rfl) ?_)), hS'.sub (by repeat (first | exact List.Sublist.refl _ | exact List.nil_sublist _ | refine List.Sublist.append_left ?_ _ | exact List.sublist_append_left _ _ | apply List.Sublist.cons_cons | apply List.Sublist.cons | apply List.sublist_append_of_sublist_right))⟩, ?_⟩
               show mc.length - ((j : Int) + 1).toNat < mc.length - ((j : Int)).toNat
               omega)
        · have hj' : j = mc.length := by omega
          rw [hj', List.take_length] at ho13
          repeat' (first
            | refine JE.pure rfl rfl (by conv => lhs; whnf) rfl ?_
            | (refine JE.kBin ?_; (refine JE.int rfl rfl rfl rfl rfl rfl ?_; with_reducible refine JE.waysD (fun _ => ?_) (fun _ => ?_)))
            | (refine JE.kBin ?_; refine JE.int rfl rfl rfl rfl (by rw [i64_id (by omega)]) rfl ?_)
            | (refine JE.kBuiltin ?_; refine JE.lenSl rfl rfl rfl ?_)
            | with_reducible refine JE.sN ?_
            | with_reducible refine JE.sX ?_
            | with_reducible refine J.seq ?_
            | with_reducible refine J.region ?_
            | refine J.condT rfl ?_
            | refine J.condF rfl ?_
            | with_reducible refine J.skip ?_
            | with_reducible refine J.exit ?_
            | with_reducible refine J.block ?_
            | with_reducible refine JX.thenN ?_
            | with_reducible refine JX.thenE ?_
            | with_reducible refine JX.blkS ?_
            | with_reducible refine JX.blkN ?_)
          all_goals first
            | (exfalso; omega)
            | (refine JX.round fun w'' hS' => ⟨⟨k + 1, v13, v10n, l13, l10n, hlt, .inr (by rw [hdone, hmc2]; exact ho13), by rw [hdone]; exact ho10n, by rw [hdone]; exact (by repeat' (first | exact trivial | refine And.intro (by rfl) ?_)), (hS'.sub (l' := l13 ++ (l10n ++ l9)) (by repeat (first | exact List.Sublist.refl _ | exact List.nil_sublist _ | refine List.Sublist.append_left ?_ _ | exact List.sublist_append_left _ _ | apply List.Sublist.cons_cons | apply List.Sublist.cons | apply List.sublist_append_of_sublist_right))).perm (List.perm_append_comm_assoc _ _ _)⟩, ?_⟩
               show r.length - ((k : Int) + 1).toNat < r.length - ((k : Int)).toNat
               omega)
      · have hmin : min s' p.amount = p.amount := Int.min_eq_right (by omega)
        have hn0 : 0 < p.amount := by omega
        have hnl : p.amount ≤ 1099511627776 := by omega
        have hdone : payE (r.take (k + 1)) s = (E ++ [⟨p.creditor, ByteArray.empty, p.amount⟩], G ++ [(p.creditor, p.amount)], s' - p.amount) := by rw [hsn, hmin, if_pos hn0]
        have hmc2 : (G ++ [(p.creditor, p.amount)]).foldl (fun m y => less t y.1 y.2 m) m = less t p.creditor p.amount mc := by rw [List.foldl_append, ← hmc]; rfl
        repeat' (first
          | refine JE.pure rfl rfl (by conv => lhs; whnf) rfl ?_
          | (refine JE.kBin ?_; (refine JE.int rfl rfl rfl rfl rfl rfl ?_; with_reducible refine JE.waysD (fun _ => ?_) (fun _ => ?_)))
          | (refine JE.kBin ?_; refine JE.int rfl rfl rfl rfl (by rw [i64_id (by omega)]) rfl ?_)
          | (refine JE.kField ?_; refine JE.fieldAddr rfl rfl rfl ?_)
          | (refine JE.kBuiltin ?_; refine JE.lenSl rfl rfl rfl ?_)
          | (refine JE.kBuild ?_; refine JE.build rfl rfl (by repeat (first | exact NfL.nil rfl | apply NfL.cons (by exact rfl) (by conv => lhs; whnf))) rfl ?_)
          | (refine JE.kBuildSlice ?_; refine JE.buildSlice rfl rfl rfl (by conv => lhs; whnf) (by rfl) (by rfl) (by repeat (first | exact NfL.nil rfl | apply NfL.cons (by exact rfl) (by conv => lhs; whnf))) rfl (fun _ _ => ?_))
          | with_reducible refine JE.sN ?_
          | with_reducible refine JE.sX ?_
          | with_reducible refine J.seq ?_
          | with_reducible refine J.region ?_
          | refine J.condT rfl ?_
          | refine J.condF rfl ?_
          | with_reducible refine J.skip ?_
          | with_reducible refine J.exit ?_
          | with_reducible refine J.block ?_
          | with_reducible refine J.ret ?_
          | with_reducible refine JX.thenN ?_
          | with_reducible refine JX.thenE ?_
          | with_reducible refine JX.blkS ?_
          | (refine JE.kIndexAddr ?_; refine JE.indexAddr rfl rfl rfl (Int.natCast_nonneg _) (by omega) rfl ?_)
          | (refine JE.kLoad ?_; refine JE.loadRowCS rfl rfl (fun w' hS' => hr9 w' (hS'.sub (by repeat (first | exact List.Sublist.refl _ | exact List.nil_sublist _ | refine List.Sublist.append_left ?_ _ | exact List.sublist_append_left _ _ | apply List.Sublist.cons_cons | apply List.Sublist.cons | apply List.sublist_append_of_sublist_right)))) hxk rfl rfl (fun h => by first | exact trivial | cases h) rfl ?_)
          | (refine JE.kBuiltin ?_; refine JE.appendOwn rfl rfl rfl ((show Own 3 encEntry 35 _ _ _ from ho10)) (by repeat (first | exact Seg.head | exact Seg.all | exact Seg.one | apply Seg.tail | apply Seg.cons)) (fun _ => rfl) (fun _ => rfl) (fun w hS => sl_one (enc := encEntry) (k := 3) (fun _ => rfl) (⟨p.creditor, ByteArray.empty, p.amount⟩ : Entry) (hS.get (by repeat (first | exact In.head | refine In.tail ?_ | refine In.app ?_)))) (by (try simp only [List.length_cons, List.length_nil, List.length_append, List.length_drop, List.length_take, maxLen] at *); omega) (by (try simp only [List.length_cons, List.length_nil, List.length_append, List.length_drop, List.length_take, maxLen] at *); omega) (fun _ _ _ _ => trivial) rfl (fun _ _ _ => ?_))
          | (refine JE.kBuildSlice ?_; refine JE.buildSlice0 rfl rfl (fun _ _ => ?_)))
        all_goals first
          | (exfalso; omega)
          | skip
        rename_i v10n l10n ho10n B13 hB13
        refine J.loop (fun f w' => ∃ (j : Nat) (v13 : Value) (l13 : List (Nat × Obj)), j ≤ mc.length ∧ Own 6 encPledge 37 v13 ((mc.take j).filterMap (lessX t p.creditor p.amount)) l13 ∧ Has f [(0, .slice ac mc.length cc), (1, .string t), (2, .int .i64 (s' - p.amount)), (9, .slice (some ⟨B9, off9, none⟩) r.length c9), (10, v10n), (11, .int .i64 k), (12, .int .i64 p.amount), (13, v13), (14, .int .i64 j)] ∧ St w [] (l13 ++ (l10n ++ (lc ++ l9))) w')
          (fun f _ => mc.length - (intOf (f 14)).toNat) (fun w' hS => ⟨0, _, [(B13, .cells #[] 37 (0, 0))], Nat.zero_le _, Own.empty, (by repeat' (first | exact trivial | refine And.intro (by rfl) ?_)), hS.sub (by repeat (first | exact List.Sublist.refl _ | exact List.nil_sublist _ | refine List.Sublist.append_left ?_ _ | exact List.sublist_append_left _ _ | apply List.Sublist.cons_cons | apply List.Sublist.cons | apply List.sublist_append_of_sublist_right))⟩) ?_
        rintro f w' ⟨j, v13, l13, hj, ho13, hf, hS⟩
        obtain ⟨g, rfl⟩ := hf.eq
        clear hf
        refine J.at_ ?_ hS
        by_cases hjl : j < mc.length
        · have hxj : mc[j]? = some mc[j] := List.getElem?_eq_getElem hjl
          have hxa := (may_of (hdoc.may mc[j] (List.getElem_mem hjl))).2.2.2.2
          generalize mc[j] = x at hxj hxa
          have hnext := filterMap_take (p := lessX t p.creditor p.amount) hxj
          obtain ⟨Bc, offc, rfl⟩ : ∃ B off, ac = some ⟨B, off, none⟩ := by
            obtain ⟨a', c', e1, h2⟩ := hslc _ (hS.sub (by repeat (first | exact List.Sublist.refl _ | exact List.nil_sublist _ | refine List.Sublist.append_left ?_ _ | exact List.sublist_append_left _ _ | apply List.Sublist.cons_cons | apply List.Sublist.cons | apply List.sublist_append_of_sublist_right)))
            obtain ⟨B, off, e2, _⟩ := h2 (by intro e; rw [e] at hxj; simp at hxj)
            simp only [Value.slice.injEq] at e1
            exact ⟨B, off, e1.1.trans e2⟩
          have hrc := rows_of hslc (by intro e; rw [e] at hxj; simp at hxj)
          have hfl : ((mc.take j).filterMap (lessX t p.creditor p.amount)).length ≤ j := Nat.le_trans (List.length_filterMap_le _ _) (by simp; omega)
          repeat' (first
            | refine JE.pure rfl rfl (by conv => lhs; whnf) rfl ?_
            | refine JE.skip rfl rfl ?_
            | (refine JE.kBin ?_; (refine JE.int rfl rfl rfl rfl rfl rfl ?_; with_reducible refine JE.waysD (fun _ => ?_) (fun _ => ?_)))
            | (refine JE.kBin ?_; refine JE.int rfl rfl rfl rfl (by rw [i64_id (by omega)]) rfl ?_)
            | (refine JE.kBin ?_; (refine JE.eqStr rfl rfl rfl rfl ?_; with_reducible refine JE.waysD (fun _ => ?_) (fun _ => ?_)))
            | (refine JE.kField ?_; refine JE.fieldAddr rfl rfl rfl ?_)
            | (refine JE.kLoad ?_; refine JE.load1 rfl rfl (by repeat (first | exact In.head | refine In.tail ?_ | refine In.app ?_)) rfl (by conv => lhs; whnf) (fun _ => by first | trivial | exact ⟨.inr ‹_›, trivial⟩ | exact ⟨.inl (by kernel_rfl), trivial⟩ | exact ⟨.inr ‹_›, .inr ‹_›, trivial⟩ | exact ⟨.inr ‹_›, .inl (by kernel_rfl), trivial⟩ | exact ⟨.inl (by kernel_rfl), .inr ‹_›, trivial⟩ | exact ⟨.inl (by kernel_rfl), .inl (by kernel_rfl), trivial⟩) rfl ?_)
            | (refine JE.kLoad ?_; refine JE.loadAll rfl rfl (by repeat (first | exact In.head | refine In.tail ?_ | refine In.app ?_)) (by rfl) (fun _ => by first | trivial | exact ⟨.inr ‹_›, trivial⟩ | exact ⟨.inl (by kernel_rfl), trivial⟩ | exact ⟨.inr ‹_›, .inr ‹_›, trivial⟩ | exact ⟨.inr ‹_›, .inl (by kernel_rfl), trivial⟩ | exact ⟨.inl (by kernel_rfl), .inr ‹_›, trivial⟩ | exact ⟨.inl (by kernel_rfl), .inl (by kernel_rfl), trivial⟩) rfl ?_)
            | (refine JE.kAlloc ?_; refine JE.alloc rfl (by conv => lhs; whnf) rfl (fun _ _ => ?_))
            | (refine JE.kStore ?_; refine JE.store rfl rfl (by repeat (first | exact Turn.head | apply Turn.tail | apply Turn.app)) SizeT.size (by repeat (first | exact NfL.nil rfl | apply NfL.cons (by exact rfl) (by conv => lhs; whnf))) (by rfl) (by rfl) (by rfl) (by repeat (first | exact NfL.nil rfl | apply NfL.cons (by exact rfl) (by conv => lhs; whnf))) (by first | trivial | exact List.mem_cons_self | exact List.mem_cons_of_mem _ List.mem_cons_self) rfl ?_)
            | (refine JE.kBuiltin ?_; refine JE.lenSl rfl rfl rfl ?_)
            | (refine JE.kBuildSlice ?_; refine JE.buildSlice rfl rfl rfl (by conv => lhs; whnf) (by rfl) (by rfl) (by repeat (first | exact NfL.nil rfl | apply NfL.cons (by exact rfl) (by conv => lhs; whnf))) rfl (fun _ _ => ?_))
            | with_reducible refine JE.sN ?_
            | with_reducible refine JE.sX ?_
            | with_reducible refine JE.dN ?_
            | with_reducible refine J.seq ?_
            | with_reducible refine J.region ?_
            | refine J.condT rfl ?_
            | refine J.condF rfl ?_
            | with_reducible refine J.skip ?_
            | with_reducible refine J.exit ?_
            | with_reducible refine J.block ?_
            | with_reducible refine JX.thenN ?_
            | with_reducible refine JX.thenE ?_
            | with_reducible refine JX.blkS ?_
            | with_reducible refine JX.blkN ?_
            | (refine J.isR 17 ?_; refine J.draw [(0, true), (1, true), (2, true), (3, true), (4, true), (5, true), (6, true), (7, true), (8, true), (9, true), (10, true), (11, true), (12, true), (13, true)] [] mixed (by kernel_rfl) (fun _ h => h.drew) ?_)
            | (refine JE.kIndexAddr ?_; refine JE.indexAddr rfl rfl rfl (Int.natCast_nonneg _) (by omega) rfl ?_)
            | (refine JE.isLoadT 71 ?_; refine JE.loadRowCS rfl rfl (fun w' hS' => hr9 w' (hS'.sub (by repeat (first | exact List.Sublist.refl _ | exact List.nil_sublist _ | refine List.Sublist.append_left ?_ _ | exact List.sublist_append_left _ _ | apply List.Sublist.cons_cons | apply List.Sublist.cons | apply List.sublist_append_of_sublist_right)))) hxk rfl rfl (fun h => by first | exact trivial | cases h) rfl ?_)
            | (refine JE.isLoadT 59 ?_; refine JE.loadRowS rfl rfl (fun w' hS' => hrc w' (hS'.sub (by repeat (first | exact List.Sublist.refl _ | exact List.nil_sublist _ | refine List.Sublist.append_left ?_ _ | exact List.sublist_append_left _ _ | apply List.Sublist.cons_cons | apply List.Sublist.cons | apply List.sublist_append_of_sublist_right)))) hxj rfl rfl (fun h => by first | exact trivial | cases h) rfl ?_)
            | (refine JE.kBuiltin ?_; refine JE.appendOwn rfl rfl rfl ((show Own 6 encPledge 37 _ _ _ from ho13)) (by repeat (first | exact Seg.head | exact Seg.all | exact Seg.one | apply Seg.tail | apply Seg.cons)) (fun _ => rfl) (fun _ => rfl) (fun w hS => sl_one encP_len x (hS.get (by repeat (first | exact In.head | refine In.tail ?_ | refine In.app ?_)))) (by (try simp only [List.length_cons, List.length_nil, List.length_append, List.length_drop, List.length_take, maxLen] at *); omega) (by (try simp only [List.length_cons, List.length_nil, List.length_append, List.length_drop, List.length_take, maxLen] at *); omega) (fun _ _ _ _ => trivial) rfl (fun _ _ _ => ?_))
            | (refine JE.kBuiltin ?_; refine JE.appendOwn rfl rfl rfl ((show Own 6 encPledge 37 _ _ _ from ho13)) (by repeat (first | exact Seg.head | exact Seg.all | exact Seg.one | apply Seg.tail | apply Seg.cons)) (fun _ => rfl) (fun _ => rfl) (fun w hS => sl_one encP_len { x with amount := x.amount - p.amount } (hS.get (by repeat (first | exact In.head | refine In.tail ?_ | refine In.app ?_)))) (by (try simp only [List.length_cons, List.length_nil, List.length_append, List.length_drop, List.length_take, maxLen] at *); omega) (by (try simp only [List.length_cons, List.length_nil, List.length_append, List.length_drop, List.length_take, maxLen] at *); omega) (fun _ _ _ _ => trivial) rfl (fun _ _ _ => ?_)))
          all_goals first
            | (exfalso; omega)
            | (refine JX.round fun w'' hS' => ⟨⟨j + 1, v13, l13, hjl, by rw [hnext, lessX_none ‹_› ‹_› ‹_›, List.append_nil]; exact ho13, (by repeat' (first | exact trivial | refine And.intro (by rfl) ?_)), hS'.sub (by repeat (first | exact List.Sublist.refl _ | exact List.nil_sublist _ | refine List.Sublist.append_left ?_ _ | exact List.sublist_append_left _ _ | apply List.Sublist.cons_cons | apply List.Sublist.cons | apply List.sublist_append_of_sublist_right))⟩, ?_⟩
               show mc.length - ((j : Int) + 1).toNat < mc.length - ((j : Int)).toNat
               omega)
            | (rename_i hown
               refine JX.round fun w'' hS' => ⟨⟨j + 1, _, _, hjl, by rw [hnext, lessX_some ‹_› ‹_› ‹_›]; exact hown, (by repeat' (first | exact trivial | refine And.intro (by rfl) ?_)), hS'.sub (by repeat (first | exact List.Sublist.refl _ | exact List.nil_sublist _ | refine List.Sublist.append_left ?_ _ | exact List.sublist_append_left _ _ | apply List.Sublist.cons_cons | apply List.Sublist.cons | apply List.sublist_append_of_sublist_right))⟩, ?_⟩
               show mc.length - ((j : Int) + 1).toNat < mc.length - ((j : Int)).toNat
               omega)
            | (rename_i hown
               refine JX.round fun w'' hS' => ⟨⟨j + 1, _, _, hjl, by rw [hnext, lessX_skip (by first | exact fun h => absurd h.1 ‹_› | exact fun h => absurd h.2 ‹_›)]; exact hown, (by repeat' (first | exact trivial | refine And.intro (by rfl) ?_)), hS'.sub (by repeat (first | exact List.Sublist.refl _ | exact List.nil_sublist _ | refine List.Sublist.append_left ?_ _ | exact List.sublist_append_left _ _ | apply List.Sublist.cons_cons | apply List.Sublist.cons | apply List.sublist_append_of_sublist_right))⟩, ?_⟩
               show mc.length - ((j : Int) + 1).toNat < mc.length - ((j : Int)).toNat
               omega)
        · have hj' : j = mc.length := by omega
          rw [hj', List.take_length] at ho13
          repeat' (first
            | refine JE.pure rfl rfl (by conv => lhs; whnf) rfl ?_
            | (refine JE.kBin ?_; (refine JE.int rfl rfl rfl rfl rfl rfl ?_; with_reducible refine JE.waysD (fun _ => ?_) (fun _ => ?_)))
            | (refine JE.kBin ?_; refine JE.int rfl rfl rfl rfl (by rw [i64_id (by omega)]) rfl ?_)
            | (refine JE.kBuiltin ?_; refine JE.lenSl rfl rfl rfl ?_)
            | with_reducible refine JE.sN ?_
            | with_reducible refine JE.sX ?_
            | with_reducible refine J.seq ?_
            | with_reducible refine J.region ?_
            | refine J.condT rfl ?_
            | refine J.condF rfl ?_
            | with_reducible refine J.skip ?_
            | with_reducible refine J.exit ?_
            | with_reducible refine J.block ?_
            | with_reducible refine JX.thenN ?_
            | with_reducible refine JX.thenE ?_
            | with_reducible refine JX.blkS ?_
            | with_reducible refine JX.blkN ?_)
          all_goals first
            | (exfalso; omega)
            | (refine JX.round fun w'' hS' => ⟨⟨k + 1, v13, v10n, l13, l10n, hlt, .inr (by rw [hdone, hmc2]; exact ho13), by rw [hdone]; exact ho10n, by rw [hdone]; exact (by repeat' (first | exact trivial | refine And.intro (by rfl) ?_)), (hS'.sub (l' := l13 ++ (l10n ++ l9)) (by repeat (first | exact List.Sublist.refl _ | exact List.nil_sublist _ | refine List.Sublist.append_left ?_ _ | exact List.sublist_append_left _ _ | apply List.Sublist.cons_cons | apply List.Sublist.cons | apply List.sublist_append_of_sublist_right))).perm (List.perm_append_comm_assoc _ _ _)⟩, ?_⟩
               show r.length - ((k : Int) + 1).toNat < r.length - ((k : Int)).toNat
               omega)
  · have hk' : k = r.length := by omega
    rw [hk', List.take_length] at hbk ho10
    rw [hfold] at hbk
    rw [hk', List.take_length]
    repeat' (first
      | refine JE.pure rfl rfl (by conv => lhs; whnf) rfl ?_
      | (refine JE.kBin ?_; (refine JE.int rfl rfl rfl rfl rfl rfl ?_; with_reducible refine JE.waysD (fun _ => ?_) (fun _ => ?_)))
      | (refine JE.kBuiltin ?_; refine JE.lenSl rfl rfl rfl ?_)
      | with_reducible refine JE.sN ?_
      | with_reducible refine J.seq ?_
      | with_reducible refine J.region ?_
      | refine J.condT rfl ?_
      | refine J.condF rfl ?_
      | with_reducible refine J.skip ?_
      | with_reducible refine J.exit ?_
      | with_reducible refine J.block ?_
      | with_reducible refine J.ret ?_
      | with_reducible refine JX.thenN ?_
      | with_reducible refine JX.thenE ?_
      | with_reducible refine JX.blkS ?_)
    all_goals first
      | (exfalso; omega)
      | exact fnQ_tmp3 (.inl rfl) rfl (by conv => lhs; whnf) (by conv => lhs; whnf) (by conv => lhs; whnf) fun w'' hS' => ⟨_, _, rfl, ⟨_, _, _, _, rfl, rfl, ho10, hbk⟩, hS'.sub (by repeat (first | exact List.Sublist.refl _ | exact List.nil_sublist _ | refine List.Sublist.append_left ?_ _ | exact List.sublist_append_left _ _ | apply List.Sublist.cons_cons | apply List.Sublist.cons | apply List.sublist_append_of_sublist_right))⟩

end Go.Proofs.Ytnapfiheholhiaa
