/-
  Plain law: two sorted rows that are merged, cut anywhere, are the merges of the parts; sorting by insertion from behind is merging the sorted parts. Conditions: none.
-/
import Derived.Test.YtnapfiheholhiaaDoc
set_option linter.unusedVariables false
set_option linter.unusedSimpArgs false
namespace Go.Proofs.Ytnapfiheholhiaa
open Go

section
variable {α : Type} {lt : α → α → Bool}

/-- A weak order: who passes whom. -/
structure Weak (lt : α → α → Bool) : Prop where
  neg : ∀ x y z, lt x y = false → lt y z = false → lt x z = false
  asymm : ∀ x y, lt x y = true → lt y x = false

def SortedB (lt : α → α → Bool) (l : List α) : Prop := l.Pairwise fun x y => lt y x = false

def mergeB (lt : α → α → Bool) : List α → List α → List α
  | [], ys => ys
  | x :: xs, [] => x :: xs
  | x :: xs, y :: ys => if lt y x then y :: mergeB lt (x :: xs) ys else x :: mergeB lt xs (y :: ys)
termination_by xs ys => xs.length + ys.length

theorem mergeB_nil (l : List α) : mergeB lt l [] = l := by cases l <;> rw [mergeB]
theorem mergeB_nil' (l : List α) : mergeB lt [] l = l := by rw [mergeB]

theorem mergeB_perm : ∀ (n : Nat) (xs ys : List α), xs.length + ys.length = n → (mergeB lt xs ys).Perm (xs ++ ys) := by
  intro n
  induction n with
  | zero =>
    intro xs ys h
    have h1 : xs = [] := List.eq_nil_of_length_eq_zero (by omega)
    have h2 : ys = [] := List.eq_nil_of_length_eq_zero (by omega)
    subst h1; subst h2; rw [mergeB]; exact .refl _
  | succ n ih =>
    intro xs ys h
    cases xs with
    | nil => rw [mergeB_nil']; exact .refl _
    | cons x xs =>
      cases ys with
      | nil => rw [mergeB_nil, List.append_nil]
      | cons y ys =>
        simp only [List.length_cons] at h
        rw [mergeB]
        split
        · refine ((ih (x :: xs) ys (by simp only [List.length_cons]; omega)).cons y).trans ?_
          exact List.perm_middle.symm
        · exact (ih xs (y :: ys) (by simp only [List.length_cons]; omega)).cons x
theorem mergeB_length (xs ys : List α) : (mergeB lt xs ys).length = xs.length + ys.length := by rw [(mergeB_perm _ xs ys rfl).length_eq, List.length_append]
theorem mergeB_mem {xs ys : List α} {x : α} : x ∈ mergeB lt xs ys ↔ x ∈ xs ∨ x ∈ ys := by rw [(mergeB_perm _ xs ys rfl).mem_iff, List.mem_append]

theorem merge_cut : ∀ (n : Nat) (L1 R1 L2 R2 : List α), L1.length + R1.length = n → (∀ r ∈ R1, ∀ l ∈ L2, lt r l = true) → (∀ l ∈ L1, ∀ r ∈ R2, lt r l = false) →
    mergeB lt (L1 ++ L2) (R1 ++ R2) = mergeB lt L1 R1 ++ mergeB lt L2 R2 := by
  intro n
  induction n with
  | zero =>
    intro L1 R1 L2 R2 h _ _
    have h1 : L1 = [] := List.eq_nil_of_length_eq_zero (by omega)
    have h2 : R1 = [] := List.eq_nil_of_length_eq_zero (by omega)
    subst h1; subst h2
    rw [mergeB_nil, List.nil_append, List.nil_append, List.nil_append]
  | succ n ih =>
    intro L1 R1 L2 R2 h h1 h2
    cases L1 with
    | nil =>
      cases R1 with
      | nil => simp at h
      | cons y R1 =>
        simp only [List.length_cons, List.length_nil] at h
        rw [mergeB_nil', List.nil_append]
        cases L2 with
        | nil => rw [mergeB_nil', mergeB_nil']
        | cons l L2 =>
          rw [List.cons_append, mergeB, if_pos (h1 y List.mem_cons_self l List.mem_cons_self)]
          have := ih [] R1 (l :: L2) R2 (by simp only [List.length_nil]; omega) (fun r hr => h1 r (List.mem_cons_of_mem _ hr)) (by simp)
          rw [List.nil_append, mergeB_nil'] at this
          rw [this, List.cons_append]
    | cons x L1 =>
      simp only [List.length_cons] at h
      cases R1 with
      | nil =>
        rw [mergeB_nil, List.nil_append]
        cases R2 with
        | nil => rw [mergeB_nil, mergeB_nil]
        | cons r R2 =>
          rw [List.cons_append, mergeB, if_neg (by rw [h2 x List.mem_cons_self r List.mem_cons_self]; simp)]
          have := ih L1 [] L2 (r :: R2) (by simp only [List.length_nil] at h ⊢; omega) (by simp) (fun l hl => h2 l (List.mem_cons_of_mem _ hl))
          rw [List.nil_append, mergeB_nil] at this
          rw [this, List.cons_append]
      | cons y R1 =>
        simp only [List.length_cons] at h
        rw [List.cons_append, List.cons_append, mergeB, mergeB]
        split
        · have := ih (x :: L1) R1 L2 R2 (by simp only [List.length_cons]; omega) (fun r hr => h1 r (List.mem_cons_of_mem _ hr)) h2
          rw [List.cons_append] at this
          rw [this, List.cons_append]
        · have := ih L1 (y :: R1) L2 R2 (by simp only [List.length_cons]; omega) h1 (fun l hl => h2 l (List.mem_cons_of_mem _ hl))
          rw [List.cons_append] at this
          rw [this, List.cons_append]

theorem split_at (hw : Weak lt) (b : α) : ∀ {X : List α}, SortedB lt X → ∃ X1 X2, X = X1 ++ X2 ∧ (∀ x ∈ X1, lt b x = false) ∧ (∀ x ∈ X2, lt b x = true)
  | [], _ => ⟨[], [], rfl, by simp, by simp⟩
  | x :: r, h => by
    have h := List.pairwise_cons.1 h
    cases hx : lt b x with
    | true =>
      refine ⟨[], x :: r, rfl, by simp, fun y hy => ?_⟩
      rcases List.mem_cons.1 hy with rfl | hy
      · exact hx
      · cases hb : lt b y with
        | true => rfl
        | false => rw [hw.neg b y x hb (h.1 y hy)] at hx; cases hx
    | false =>
      obtain ⟨X1, X2, rfl, h1, h2⟩ := split_at hw b h.2
      refine ⟨x :: X1, X2, rfl, fun y hy => ?_, h2⟩
      rcases List.mem_cons.1 hy with rfl | hy
      · exact hx
      · exact h1 y hy

theorem insB_split {b : α} {M1 M2 : List α} (h1 : ∀ x ∈ M1, lt b x = false) (h2 : ∀ x ∈ M2, lt b x = true) : insB lt b (M1 ++ M2) = M1 ++ b :: M2 := by
  have := insB_at (lt := lt) (x := b) (xs := M1 ++ M2) (at' := M1.length) (by simp) (fun j y hj hy => by
    rw [List.getElem?_append_right hj] at hy
    exact h2 y (List.mem_of_getElem? hy)) (by
    by_cases h0 : M1.length = 0
    · exact .inl h0
    · refine .inr ⟨M1[M1.length - 1]'(by omega), ?_, h1 _ (List.getElem_mem _)⟩
      rw [List.getElem?_append_left (by omega), List.getElem?_eq_getElem])
  rw [this, List.take_left, List.drop_left]

theorem insB_sorted (hw : Weak lt) (b : α) {X : List α} (h : SortedB lt X) : SortedB lt (insB lt b X) := by
  obtain ⟨X1, X2, rfl, h1, h2⟩ := split_at hw b h
  rw [insB_split h1 h2]
  obtain ⟨p1, p2, p3⟩ := List.pairwise_append.1 h
  refine List.pairwise_append.2 ⟨p1, List.pairwise_cons.2 ⟨fun y hy => hw.asymm _ _ (h2 y hy), p2⟩, fun x hx y hy => ?_⟩
  rcases List.mem_cons.1 hy with rfl | hy
  · exact h1 x hx
  · exact p3 x hx y hy

theorem ins_merge (hw : Weak lt) (b : α) {X Y : List α} (hX : SortedB lt X) (hY : SortedB lt Y) : insB lt b (mergeB lt X Y) = mergeB lt X (insB lt b Y) := by
  obtain ⟨X1, X2, rfl, hx1, hx2⟩ := split_at hw b hX
  obtain ⟨Y1, Y2, rfl, hy1, hy2⟩ := split_at hw b hY
  have c1 : ∀ r ∈ Y1, ∀ l ∈ X2, lt r l = true := fun r hr l hl => by
    cases h : lt r l with
    | true => rfl
    | false => have := hw.neg b r l (hy1 r hr) h; rw [hx2 l hl] at this; cases this
  have c2 : ∀ l ∈ X1, ∀ r ∈ Y2, lt r l = false := fun l hl r hr => hw.neg r b l (hw.asymm _ _ (hy2 r hr)) (hx1 l hl)
  rw [merge_cut _ X1 Y1 X2 Y2 rfl c1 c2, insB_split (fun x hx => ?_) (fun x hx => ?_), insB_split hy1 hy2]
  · have e : Y1 ++ b :: Y2 = (Y1 ++ [b]) ++ Y2 := by simp
    rw [e, merge_cut _ X1 (Y1 ++ [b]) X2 Y2 rfl (fun r hr l hl => ?_) c2]
    · have := merge_cut (lt := lt) _ X1 Y1 [] [b] rfl (by simp) (fun l hl r hr => by rw [List.mem_singleton.1 hr]; exact hx1 l hl)
      rw [List.append_nil, mergeB_nil'] at this
      rw [this]; simp
    · rcases List.mem_append.1 hr with hr | hr
      · exact c1 r hr l hl
      · rw [List.mem_singleton.1 hr]; exact hx2 l hl
  · rcases mergeB_mem.1 hx with hx | hx
    · exact hx1 x hx
    · exact hy1 x hx
  · rcases mergeB_mem.1 hx with hx | hx
    · exact hx2 x hx
    · exact hy2 x hx

theorem sortB_sorted (hw : Weak lt) (xs : List α) : SortedB lt (sortB lt xs) := by
  have key : ∀ (xs s : List α), SortedB lt s → SortedB lt (xs.foldl (fun s x => insB lt x s) s) := by
    intro xs
    induction xs with
    | nil => intro s h; exact h
    | cons x r ih => intro s h; exact ih _ (insB_sorted hw x h)
  exact key xs [] .nil

/-- Sorting by insertion is merging the sorted parts. -/
theorem sortB_append (hw : Weak lt) (A : List α) : ∀ (n : Nat) (B : List α), B.length = n → sortB lt (A ++ B) = mergeB lt (sortB lt A) (sortB lt B) := by
  intro n
  induction n with
  | zero =>
    intro B h
    rw [List.eq_nil_of_length_eq_zero h, List.append_nil]
    show _ = mergeB lt (sortB lt A) []
    rw [mergeB_nil]
  | succ n ih =>
    intro B h
    obtain ⟨B', b, rfl⟩ : ∃ B' b, B = B' ++ [b] := ⟨B.take n, B[n]'(by omega), by
      have := List.take_append_getElem (l := B) (i := n) (by omega)
      rw [this, List.take_of_length_le (by omega)]⟩
    rw [← List.append_assoc, sortB_snoc, sortB_snoc, ih B' (by simpa using h), ins_merge hw b (sortB_sorted hw _) (sortB_sorted hw _)]
end

end Go.Proofs.Ytnapfiheholhiaa
