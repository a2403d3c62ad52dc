/-
  A payment in two parts, in plain terms. Conditions: none.
-/
import Derived.Test.YtnapfiheholhiaaLCopy
set_option linter.unusedVariables false
set_option linter.unusedSimpArgs false
namespace Go.Proofs.Ytnapfiheholhiaa
open Go Go.RowKit Go.Proofs.YtnapfiheholhiaaSym

theorem insB_filterMap {α : Type} {lt : α → α → Bool} (hw : Weak lt) {f : α → Option α} (hf : ∀ x z y w, f x = some z → f y = some w → lt z w = lt x y) {x : α} {s : List α} (hs : Ranked lt s) :
    (insB lt x s).filterMap f = match f x with | some z => insB lt z (s.filterMap f) | none => s.filterMap f := by
  obtain ⟨A, B, rfl, e, hA, hB⟩ := insB_split hw (x := x) hs
  rw [e, List.filterMap_append, List.filterMap_append]
  cases hx : f x with
  | none => rw [List.filterMap_cons_none hx]
  | some z =>
    rw [List.filterMap_cons_some hx]
    simp only
    rw [insB_parts (fun w hw' => ?_) (fun w hw' => ?_)]
    · obtain ⟨y, hy, ey⟩ := List.mem_filterMap.1 hw'
      rw [hf x z y w hx ey]; exact hA y hy
    · obtain ⟨y, hy, ey⟩ := List.mem_filterMap.1 hw'
      rw [hf x z y w hx ey]; exact hB y hy
theorem sortB_filterMap {α : Type} {lt : α → α → Bool} (hw : Weak lt) {f : α → Option α} (hf : ∀ x z y w, f x = some z → f y = some w → lt z w = lt x y) (xs : List α) : sortB lt (xs.filterMap f) = (sortB lt xs).filterMap f := by
  have key : ∀ (xs s : List α), Ranked lt s → (xs.filterMap f).foldl (fun s x => insB lt x s) (s.filterMap f) = (xs.foldl (fun s x => insB lt x s) s).filterMap f := by
    intro xs
    induction xs with
    | nil => intro s _; rfl
    | cons x r ih =>
      intro s h
      rw [List.foldl_cons, ← ih _ (insB_ranked hw h), insB_filterMap hw hf h]
      cases hx : f x with
      | none => rw [List.filterMap_cons_none hx]
      | some z => rw [List.filterMap_cons_some hx]; rfl
  exact key xs [] .nil

/-- What is left of a rank behind a payment. -/
def behind (r : List Pledge) (s : Int) : List Pledge := r.filterMap (leftX (payE r s).2.1)
theorem leftX_keys {G : List (ByteArray × Int)} (x z y w : Pledge) (h1 : leftX G x = some z) (h2 : leftX G y = some w) : passes z w = passes x y := by
  unfold leftX at h1 h2
  split at h1 <;> split at h2
  all_goals first
    | cases h1
    | skip
  all_goals first
    | cases h2
    | skip
  all_goals rfl
theorem rank_behind {m : List Pledge} (t : ByteArray) (s : Int) : rank26 (pay26 m t s) t = behind (rank26 m t) s := by
  rw [rank26, rowOf_pay, if_pos rfl, sortB_filterMap passes_weak leftX_keys]; rfl
theorem behind_zero {r : List Pledge} (hp : ∀ p ∈ r, 0 < p.amount) : behind r 0 = r := by
  unfold behind
  rw [payE_zero r hp]
  induction r with
  | nil => rfl
  | cons x r ih =>
    have hx := hp x List.mem_cons_self
    have e : leftX [] x = some x := by
      unfold leftX
      simp only [klook, Option.getD_none, Int.sub_zero]
      rw [if_pos hx]
    rw [List.filterMap_cons_some e, ih fun q hq => hp q (List.mem_cons_of_mem _ hq)]
theorem behind_cons {p : Pledge} {r : List Pledge} {s : Int} (hs : 0 < s) (hp : 0 < p.amount) (hd : ∀ q ∈ r, p.creditor ≠ q.creditor) :
    behind (p :: r) s = (if 0 < p.amount - min s p.amount then [{ p with amount := p.amount - min s p.amount }] else []) ++ behind r (s - min s p.amount) := by
  unfold behind
  rw [payE_cons hs hp]
  have e1 : r.filterMap (leftX ((p.creditor, min s p.amount) :: (payE r (s - min s p.amount)).2.1)) = r.filterMap (leftX (payE r (s - min s p.amount)).2.1) := by
    refine filterMap_cong fun q hq => ?_
    have hk : klook q.creditor ((p.creditor, min s p.amount) :: (payE r (s - min s p.amount)).2.1) = klook q.creditor (payE r (s - min s p.amount)).2.1 := by rw [klook, if_neg (fun e => hd q hq e.symm)]
    unfold leftX
    rw [hk]
  have e2 : leftX ((p.creditor, min s p.amount) :: (payE r (s - min s p.amount)).2.1) p = if 0 < p.amount - min s p.amount then some { p with amount := p.amount - min s p.amount } else none := by
    unfold leftX
    rw [klook, if_pos rfl, Option.getD_some]
  by_cases h : 0 < p.amount - min s p.amount
  · rw [if_pos h] at e2 ⊢
    rw [List.filterMap_cons_some e2, e1]; rfl
  · rw [if_neg h] at e2 ⊢
    rw [List.filterMap_cons_none e2, e1]; rfl
def sumFor (who : ByteArray) (l : List Entry) : Int := sumE (l.filter fun e => decide (e.account = who))
theorem sumFor_cons (who : ByteArray) (e : Entry) (l : List Entry) : sumFor who (e :: l) = (if e.account = who then e.amount else 0) + sumFor who l := by
  unfold sumFor
  rw [List.filter_cons]
  by_cases h : e.account = who
  · simp [h, sumE]
  · simp [h]
theorem behind_sub : ∀ (r : List Pledge) (s : Int), ∀ q ∈ behind r s, ∃ p ∈ r, p.creditor = q.creditor ∧ 0 < q.amount := fun r s q hq => by
  obtain ⟨p, hp, e⟩ := List.mem_filterMap.1 hq
  unfold leftX at e
  split at e
  · cases e; exact ⟨p, hp, rfl, by assumption⟩
  · cases e

theorem twice (who : ByteArray) : ∀ (r : List Pledge) (a b : Int), 0 ≤ a → 0 ≤ b → (∀ p ∈ r, 0 < p.amount) → r.Pairwise (fun p q => p.creditor ≠ q.creditor) →
    (payE r a).2.2 + (payE (behind r a) b).2.2 = (payE r (a + b)).2.2 ∧ sumFor who (payE r a).1 + sumFor who (payE (behind r a) b).1 = sumFor who (payE r (a + b)).1 ∧ behind (behind r a) b = behind r (a + b)
  | [], a, b, _, _, _, _ => ⟨rfl, rfl, rfl⟩
  | p :: r, a, b, ha, hb, hp, hd => by
    have h1 := hp p List.mem_cons_self
    have h2 := fun q hq => hp q (List.mem_cons_of_mem p hq)
    have hd' := hd
    rw [List.pairwise_cons] at hd
    rcases Int.lt_or_eq_of_le ha with ha' | rfl
    · by_cases hap : a < p.amount
      · have hm : min a p.amount = a := Int.min_eq_left (by omega)
        have e1 : payE (p :: r) a = ([⟨p.creditor, ByteArray.empty, a⟩], [(p.creditor, a)], 0) := by
          rw [payE_cons ha' h1, hm, Int.sub_self, payE_zero r h2]
        have e2 : behind (p :: r) a = { p with amount := p.amount - a } :: r := by
          rw [behind_cons ha' h1 hd.1, hm, Int.sub_self, behind_zero h2, if_pos (by omega)]; rfl
        rw [e1, e2]
        rcases Int.lt_or_eq_of_le hb with hb' | rfl
        · have h1' : 0 < ({ p with amount := p.amount - a } : Pledge).amount := by show 0 < p.amount - a; omega
          obtain ⟨n, hn⟩ : ∃ n, n = min b (p.amount - a) := ⟨_, rfl⟩
          have hn1 : n ≤ b := by rw [hn]; exact Int.min_le_left _ _
          have hn2 : n ≤ p.amount - a := by rw [hn]; exact Int.min_le_right _ _
          have hn' : min b ({ p with amount := p.amount - a } : Pledge).amount = n := hn.symm
          have hab : min (a + b) p.amount = a + n := by
            rw [hn]
            by_cases h : b ≤ p.amount - a
            · rw [Int.min_eq_left h, Int.min_eq_left (by omega)]
            · rw [Int.min_eq_right (by omega), Int.min_eq_right (by omega)]; omega
          rw [payE_cons hb' h1', payE_cons (show 0 < a + b by omega) h1, behind_cons hb' h1' hd.1, behind_cons (show 0 < a + b by omega) h1 hd.1, hab, hn', show a + b - (a + n) = b - n by omega]
          refine ⟨by show 0 + _ = _; rw [Int.zero_add], ?_, ?_⟩
          · simp only [sumFor_cons]
            have : sumFor who [] = 0 := rfl
            rw [this]
            split <;> omega
          · show (if 0 < p.amount - a - n then _ else _) ++ _ = _
            rw [show p.amount - a - n = p.amount - (a + n) by omega]
        · rw [Int.add_zero, payE_zero ({ p with amount := p.amount - a } :: r) (fun q hq => by
              rcases List.mem_cons.1 hq with rfl | hq
              · show 0 < p.amount - a; omega
              · exact h2 q hq), behind_zero (fun q hq => by
              rcases List.mem_cons.1 hq with rfl | hq
              · show 0 < p.amount - a; omega
              · exact h2 q hq), e1, e2]
          refine ⟨rfl, ?_, rfl⟩
          show _ + sumFor who [] = _
          have : sumFor who [] = 0 := rfl
          rw [this, Int.add_zero]
      · have hm : min a p.amount = p.amount := Int.min_eq_right (by omega)
        have hab : min (a + b) p.amount = p.amount := Int.min_eq_right (by omega)
        have ih := twice who r (a - p.amount) b (by omega) hb h2 hd.2
        rw [payE_cons ha' h1, behind_cons ha' h1 hd.1, payE_cons (show 0 < a + b by omega) h1, behind_cons (show 0 < a + b by omega) h1 hd.1, hm, hab, Int.sub_self, if_neg (by decide), List.nil_append, show a + b - p.amount = a - p.amount + b by omega]
        refine ⟨ih.1, ?_, ih.2.2⟩
        simp only [sumFor_cons]
        rw [Int.add_assoc, ih.2.1]
    · rw [payE_zero (p :: r) hp, behind_zero hp, show (0 : Int) + b = b from Int.zero_add b]
      exact ⟨by show 0 + _ = _; rw [Int.zero_add], by show sumFor who [] + _ = _; rw [show sumFor who [] = 0 from rfl, Int.zero_add], rfl⟩

end Go.Proofs.Ytnapfiheholhiaa
