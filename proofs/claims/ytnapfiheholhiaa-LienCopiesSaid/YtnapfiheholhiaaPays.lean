/-
  The walk of the statement LienPays. Conditions: none.
-/
import Derived.Test.YtnapfiheholhiaaRel2
set_option linter.unusedVariables false
set_option linter.unusedSimpArgs false
namespace Go.Proofs.Ytnapfiheholhiaa
open Go Go.RowKit Go.Proofs.YtnapfiheholhiaaSym

/-! ### What a payment comes to -/
def sumE (l : List Entry) : Int := (l.map (·.amount)).sum
def sumP (l : List Pledge) : Int := (l.map (·.amount)).sum
theorem payE_zero : ∀ r : List Pledge, (∀ p ∈ r, 0 < p.amount) → payE r 0 = ([], [], 0)
  | [], _ => rfl
  | p :: r, h => by
    have h1 := h p List.mem_cons_self
    simp only [payE]
    rw [if_neg (by rw [Int.min_eq_left (by omega)]; omega)]
    exact payE_zero r fun q hq => h q (List.mem_cons_of_mem _ hq)
theorem payE_cons {p : Pledge} {r : List Pledge} {s : Int} (hs : 0 < s) (hp : 0 < p.amount) : payE (p :: r) s = (⟨p.creditor, ByteArray.empty, min s p.amount⟩ :: (payE r (s - min s p.amount)).1, (p.creditor, min s p.amount) :: (payE r (s - min s p.amount)).2.1, (payE r (s - min s p.amount)).2.2) := by
  have : 0 < min s p.amount := Int.lt_min.2 ⟨hs, hp⟩
  simp only [payE]
  rw [if_pos this]
theorem payE_sum : ∀ (r : List Pledge) (s : Int), (payE r s).2.2 + sumE (payE r s).1 = s
  | [], s => by simp [payE, sumE]
  | p :: r, s => by
    simp only [payE]
    split
    · have := payE_sum r (s - min s p.amount)
      simp only [sumE, List.map_cons, List.sum_cons] at this ⊢
      generalize min s p.amount = n at *
      omega
    · exact payE_sum r s
theorem payE_at : ∀ (r : List Pledge) (s : Int), 0 ≤ s → (∀ p ∈ r, 0 < p.amount) → ∀ (i : Nat) (e : Entry), (payE r s).1[i]? = some e →
    ∃ p, r[i]? = some p ∧ e.account = p.creditor ∧ e.currency = ByteArray.empty ∧ 1 ≤ e.amount ∧ e.amount ≤ p.amount ∧ (i + 1 < (payE r s).1.length → e.amount = p.amount)
  | [], s, _, _, i, e, h => by simp [payE] at h
  | p :: r, s, hs, hp, i, e, h => by
    have h1 := hp p List.mem_cons_self
    have h2 := fun q hq => hp q (List.mem_cons_of_mem p hq)
    rcases Int.lt_or_eq_of_le hs with hs' | rfl
    · rw [payE_cons hs' h1] at h ⊢
      have hn : 0 < min s p.amount := Int.lt_min.2 ⟨hs', h1⟩
      have hn1 : min s p.amount ≤ s := Int.min_le_left _ _
      have hn2 : min s p.amount ≤ p.amount := Int.min_le_right _ _
      cases i with
      | zero =>
        simp only [List.getElem?_cons_zero, Option.some.injEq] at h
        subst h
        refine ⟨p, rfl, rfl, rfl, by show 1 ≤ min s p.amount; omega, hn2, fun hl => ?_⟩
        show min s p.amount = p.amount
        by_cases e1 : s ≤ p.amount
        · rw [Int.min_eq_left e1, Int.sub_self, payE_zero r h2] at hl
          simp at hl
        · rw [Int.min_eq_right (by omega)]
      | succ i =>
        simp only [List.getElem?_cons_succ] at h
        obtain ⟨q, g1, g2, g3, g4, g5, g6⟩ := payE_at r (s - min s p.amount) (by omega) h2 i e h
        exact ⟨q, by simpa using g1, g2, g3, g4, g5, fun hl => g6 (by simpa using hl)⟩
    · rw [payE_zero (p :: r) hp] at h; simp at h
/-- What each one got adds up. -/
theorem payE_got : ∀ (r : List Pledge) (s : Int), 0 ≤ s → (∀ p ∈ r, 0 < p.amount) → r.Pairwise (fun p q => p.creditor ≠ q.creditor) → (r.map fun p => (klook p.creditor (payE r s).2.1).getD 0).sum = s - (payE r s).2.2
  | [], s, _, _, _ => by simp [payE]
  | p :: r, s, hs, hp, hd => by
    have h1 := hp p List.mem_cons_self
    have h2 := fun q hq => hp q (List.mem_cons_of_mem p hq)
    rw [List.pairwise_cons] at hd
    rcases Int.lt_or_eq_of_le hs with hs' | rfl
    · rw [payE_cons hs' h1]
      have hn1 : min s p.amount ≤ s := Int.min_le_left _ _
      have ih := payE_got r (s - min s p.amount) (by omega) h2 hd.2
      have e1 : (r.map fun q => (klook q.creditor ((p.creditor, min s p.amount) :: (payE r (s - min s p.amount)).2.1)).getD 0) = r.map fun q => (klook q.creditor (payE r (s - min s p.amount)).2.1).getD 0 := by
        refine List.map_congr_left fun q hq => ?_
        rw [klook, if_neg (fun e => hd.1 q hq e.symm)]
      simp only [List.map_cons, List.sum_cons]
      rw [e1, ih, klook, if_pos rfl, Option.getD_some]
      omega
    · rw [payE_zero (p :: r) hp]
      have : ∀ l : List Pledge, (l.map fun p => (klook p.creditor ([] : List (ByteArray × Int))).getD 0).sum = 0 := by
        intro l
        induction l with
        | nil => rfl
        | cons x r ih => rw [List.map_cons, List.sum_cons, ih]; rfl
      rw [this]; rfl
/-- If something is left, all is paid. -/
theorem payE_all : ∀ (r : List Pledge) (s : Int), 0 ≤ s → (∀ p ∈ r, 0 < p.amount) → r.Pairwise (fun p q => p.creditor ≠ q.creditor) → 0 < (payE r s).2.2 → ∀ q ∈ r, (klook q.creditor (payE r s).2.1).getD 0 = q.amount
  | [], s, _, _, _, _, q, hq => by cases hq
  | p :: r, s, hs, hp, hd, h, q, hq => by
    have h1 := hp p List.mem_cons_self
    have h2 := fun q hq => hp q (List.mem_cons_of_mem p hq)
    rw [List.pairwise_cons] at hd
    rcases Int.lt_or_eq_of_le hs with hs' | rfl
    · rw [payE_cons hs' h1] at h ⊢
      have hn1 : min s p.amount ≤ s := Int.min_le_left _ _
      have hfull : min s p.amount = p.amount := by
        by_cases e1 : s ≤ p.amount
        · rw [Int.min_eq_left e1, Int.sub_self, payE_zero r h2] at h
          exact absurd h (Int.lt_irrefl 0)
        · rw [Int.min_eq_right (by omega)]
      rcases List.mem_cons.1 hq with rfl | hq
      · rw [klook, if_pos rfl, Option.getD_some, hfull]
      · rw [klook, if_neg (fun e => hd.1 q hq e.symm)]
        exact payE_all r _ (by omega) h2 hd.2 h q hq
    · rw [payE_zero (p :: r) hp] at h; exact absurd h (by decide)
theorem payE_le : ∀ (r : List Pledge) (s : Int), 0 ≤ s → (∀ p ∈ r, 0 < p.amount) → r.Pairwise (fun p q => p.creditor ≠ q.creditor) → ∀ q ∈ r, 0 ≤ (klook q.creditor (payE r s).2.1).getD 0 ∧ (klook q.creditor (payE r s).2.1).getD 0 ≤ q.amount
  | [], s, _, _, _, q, hq => by cases hq
  | p :: r, s, hs, hp, hd, q, hq => by
    have h1 := hp p List.mem_cons_self
    have h2 := fun q hq => hp q (List.mem_cons_of_mem p hq)
    have h3 := hp q hq
    rw [List.pairwise_cons] at hd
    rcases Int.lt_or_eq_of_le hs with hs' | rfl
    · rw [payE_cons hs' h1]
      have hn : 0 < min s p.amount := Int.lt_min.2 ⟨hs', h1⟩
      have hn1 : min s p.amount ≤ s := Int.min_le_left _ _
      have hn2 : min s p.amount ≤ p.amount := Int.min_le_right _ _
      rcases List.mem_cons.1 hq with rfl | hq
      · rw [klook, if_pos rfl, Option.getD_some]; exact ⟨by omega, hn2⟩
      · rw [klook, if_neg (fun e => hd.1 q hq e.symm)]
        exact payE_le r _ (by omega) h2 hd.2 q hq
    · rw [payE_zero (p :: r) hp]
      simp only [klook, Option.getD_none]
      omega
theorem sumP_left (G : List (ByteArray × Int)) : ∀ l : List Pledge, (∀ q ∈ l, (klook q.creditor G).getD 0 ≤ q.amount) → sumP (l.filterMap (leftX G)) = sumP l - (l.map fun p => (klook p.creditor G).getD 0).sum
  | [], _ => rfl
  | x :: r, h => by
    have ih := sumP_left G r fun q hq => h q (List.mem_cons_of_mem _ hq)
    have hx := h x List.mem_cons_self
    by_cases h0 : 0 < x.amount - (klook x.creditor G).getD 0
    · rw [List.filterMap_cons_some (show leftX G x = some _ from if_pos h0)]
      simp only [sumP, List.map_cons, List.sum_cons] at ih ⊢
      omega
    · rw [List.filterMap_cons_none (show leftX G x = none from if_neg h0), ih]
      simp only [sumP, List.map_cons, List.sum_cons]
      omega
theorem sumP_perm {l l' : List Pledge} (h : l.Perm l') : sumP l = sumP l' := by
  induction h with
  | nil => rfl
  | cons x _ ih => simp only [sumP, List.map_cons, List.sum_cons] at ih ⊢; omega
  | swap x y l => simp only [sumP, List.map_cons, List.sum_cons]; omega
  | trans _ _ h1 h2 => exact h1.trans h2
theorem sum_perm {f : Pledge → Int} {l l' : List Pledge} (h : l.Perm l') : (l.map f).sum = (l'.map f).sum := by
  induction h with
  | nil => rfl
  | cons x _ ih => simp only [List.map_cons, List.sum_cons, ih]
  | swap x y l => simp only [List.map_cons, List.sum_cons]; omega
  | trans _ _ h1 h2 => exact h1.trans h2
/-- What is left of the pledges is what they were less what was paid; if something is left over, none is. -/
theorem pay_behind {m : List Pledge} (hd : Doc m) (t : ByteArray) {s : Int} (hs : 0 ≤ s) : sumP (rank26 (pay26 m t s) t) = sumP (rank26 m t) - (s - (payE (rank26 m t) s).2.2) ∧ (0 < (payE (rank26 m t) s).2.2 → rank26 (pay26 m t s) t = []) := by
  have hpos : ∀ p ∈ rank26 m t, 0 < p.amount := fun p hp => hd.pos p (Doc.rankMem hp).1
  have hrc := hd.rankCreditor t
  have hp : (rank26 m t).Perm (rowOf m t) := sortB_perm _ _
  have hrow : rowOf (pay26 m t s) t = (rowOf m t).filterMap (leftX (payE (rank26 m t) s).2.1) := by rw [rowOf_pay, if_pos rfl]
  refine ⟨?_, fun h => ?_⟩
  · rw [show sumP (rank26 (pay26 m t s) t) = sumP (rowOf (pay26 m t s) t) from sumP_perm (sortB_perm passes (rowOf (pay26 m t s) t)), hrow, sumP_left _ _ (fun q hq => (payE_le _ s hs hpos hrc q (hp.mem_iff.2 hq)).2), ← sum_perm hp, payE_got _ s hs hpos hrc, sumP_perm hp]
  · have hall := payE_all _ s hs hpos hrc h
    have : rowOf (pay26 m t s) t = [] := by
      rw [hrow]
      refine List.filterMap_eq_nil_iff.2 fun q hq => ?_
      rw [leftX, if_neg]
      rw [hall q (hp.mem_iff.2 hq)]; omega
    rw [rank26, this]; rfl
theorem sumP_bound : ∀ l : List Pledge, (∀ p ∈ l, 0 < p.amount ∧ p.amount ≤ 1099511627776) → 0 ≤ sumP l ∧ sumP l ≤ l.length * 1099511627776
  | [], _ => by simp [sumP]
  | x :: r, h => by
    have ih := sumP_bound r fun q hq => h q (List.mem_cons_of_mem _ hq)
    have hx := h x List.mem_cons_self
    simp only [sumP, List.map_cons, List.sum_cons, List.length_cons] at ih ⊢
    omega
theorem sumP_take {l : List Pledge} {k : Nat} {x : Pledge} (hx : l[k]? = some x) : sumP (l.take (k + 1)) = sumP (l.take k) + x.amount := by
  rw [List.take_add_one, hx]; simp [sumP]
theorem sumE_take {l : List Entry} {k : Nat} {x : Entry} (hx : l[k]? = some x) : sumE (l.take (k + 1)) = sumE (l.take k) + x.amount := by
  rw [List.take_add_one, hx]; simp [sumE]

end Go.Proofs.Ytnapfiheholhiaa
