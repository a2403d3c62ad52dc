/-
  Where two sorted rows may be cut. Conditions: none.
-/
import Derived.Test.YtnapfiheholhiaaSymB
set_option linter.unusedVariables false
set_option linter.unusedSimpArgs false
namespace Go.Proofs.Ytnapfiheholhiaa
open Go

section
variable {α : Type} {lt : α → α → Bool}
theorem Weak.irrefl (hw : Weak lt) (x : α) : lt x x = false := by
  cases h : lt x x with
  | false => rfl
  | true => have := hw.asymm x x h; rw [h] at this; cases this
theorem sorted_le (hw : Weak lt) {R : List α} (hs : SortedB lt R) {p q : Nat} {y z : α} (hpq : p ≤ q) (hy : R[p]? = some y) (hz : R[q]? = some z) : lt z y = false := by
  rcases Nat.lt_or_ge p q with h | h
  · exact sorted_get hs h hy hz
  · have e : p = q := by omega
    subst e
    rw [hy] at hz; cases hz
    exact hw.irrefl _

/-- A cut, told by the elements beside it. -/
theorem cut_at (hw : Weak lt) {L R : List α} (hsL : SortedB lt L) (hsR : SortedB lt R) {u v : Nat}
    (h1 : u = 0 ∨ R.length ≤ v ∨ ∃ l r, L[u - 1]? = some l ∧ R[v]? = some r ∧ lt r l = false) (h2 : L.length ≤ u ∨ v = 0 ∨ ∃ l r, L[u]? = some l ∧ R[v - 1]? = some r ∧ lt r l = true) :
    mergeB lt L R = mergeB lt (L.take u) (R.take v) ++ mergeB lt (L.drop u) (R.drop v) := by
  have := merge_cut (lt := lt) _ (L.take u) (R.take v) (L.drop u) (R.drop v) rfl (fun r hr l hl => ?_) (fun l hl r hr => ?_)
  · rw [List.take_append_drop, List.take_append_drop] at this; exact this
  · obtain ⟨q, hq, rfl⟩ := List.mem_iff_getElem.1 hr
    obtain ⟨p, hp, rfl⟩ := List.mem_iff_getElem.1 hl
    rw [List.length_take] at hq
    rw [List.length_drop] at hp
    rw [List.getElem_take, List.getElem_drop]
    rcases h2 with h2 | h2 | ⟨l0, r0, e1, e2, e3⟩
    · omega
    · omega
    · cases h : lt (R[q]'(by omega)) (L[u + p]'(by omega)) with
      | true => rfl
      | false =>
        have a1 := sorted_le hw hsR (show q ≤ v - 1 by omega) (List.getElem?_eq_getElem (by omega)) e2
        have a2 := sorted_le hw hsL (Nat.le_add_right u p) e1 (List.getElem?_eq_getElem (by omega))
        rw [hw.neg _ _ _ (hw.neg _ _ _ a1 h) a2] at e3
        cases e3
  · obtain ⟨q, hq, rfl⟩ := List.mem_iff_getElem.1 hr
    obtain ⟨p, hp, rfl⟩ := List.mem_iff_getElem.1 hl
    rw [List.length_take] at hp
    rw [List.length_drop] at hq
    rw [List.getElem_take, List.getElem_drop]
    rcases h1 with h1 | h1 | ⟨l0, r0, e1, e2, e3⟩
    · omega
    · omega
    · have a1 := sorted_le hw hsR (Nat.le_add_right v q) e2 (List.getElem?_eq_getElem (by omega))
      have a2 := sorted_le hw hsL (show p ≤ u - 1 by omega) (List.getElem?_eq_getElem (by omega)) e1
      exact hw.neg _ _ _ (hw.neg _ _ _ a1 e3) a2
end

end Go.Proofs.Ytnapfiheholhiaa
