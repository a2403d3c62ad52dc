/-
  Layer 26 in plain terms: pledges, ranks, payments. Conditions: none.
-/
import Derived.Test.YtnapfiheholhiaaLien1
set_option linter.unusedVariables false
set_option linter.unusedSimpArgs false
namespace Go.Proofs.Ytnapfiheholhiaa
open Go Go.RowKit Go.Proofs.YtnapfiheholhiaaSym

structure Entry where
  account : ByteArray
  currency : ByteArray
  amount : Int
  deriving DecidableEq
def encEntry (e : Entry) : List Value := [.string e.account, .string e.currency, .int .i64 e.amount]

/-! ### Insertion from behind -/
section
variable {α : Type}
/-- x goes in behind the last one that it does not pass. -/
def insB (lt : α → α → Bool) (x : α) (xs : List α) : List α :=
  xs.take (xs.length - (xs.reverse.takeWhile (lt x)).length) ++ x :: xs.drop (xs.length - (xs.reverse.takeWhile (lt x)).length)
theorem insB_at {lt : α → α → Bool} {x : α} {xs : List α} {at' : Nat} (hl : at' ≤ xs.length) (h1 : ∀ j y, at' ≤ j → xs[j]? = some y → lt x y = true) (h2 : at' = 0 ∨ ∃ y, xs[at' - 1]? = some y ∧ lt x y = false) :
    insB lt x xs = xs.take at' ++ x :: xs.drop at' := by
  have e : (xs.reverse.takeWhile (lt x)).length = xs.length - at' := by
    have e1 : xs.reverse = (xs.drop at').reverse ++ (xs.take at').reverse := by rw [← List.reverse_append, List.take_append_drop]
    rw [e1, List.takeWhile_append_of_pos (fun y hy => by
      obtain ⟨j, hj, rfl⟩ := List.mem_iff_getElem.1 (List.mem_reverse.1 hy)
      rw [List.getElem_drop]
      exact h1 _ _ (Nat.le_add_right _ _) (List.getElem?_eq_getElem _))]
    have e2 : (xs.take at').reverse.takeWhile (lt x) = [] := by
      rcases h2 with rfl | ⟨y, hy, hf⟩
      · simp
      · have h0 : 0 < at' ∨ at' = 0 := by omega
        rcases h0 with h0 | h0
        · have hlt : at' - 1 < xs.length := by omega
          have e3 : xs.take at' = xs.take (at' - 1) ++ [y] := by
            have : at' = (at' - 1) + 1 := by omega
            rw [this, List.take_add_one, show at' - 1 + 1 - 1 = at' - 1 by omega, hy]
            rfl
          rw [e3, List.reverse_append]
          simp [hf]
        · subst h0; simp
    rw [e2]
    simp
  unfold insB
  rw [e, show xs.length - (xs.length - at') = at' by omega]
def sortB (lt : α → α → Bool) (xs : List α) : List α := xs.foldl (fun s x => insB lt x s) []
theorem insB_perm (lt : α → α → Bool) (x : α) (xs : List α) : (insB lt x xs).Perm (x :: xs) := by
  unfold insB
  exact List.perm_middle.trans (List.Perm.cons _ (by rw [List.take_append_drop]))
theorem insB_length (lt : α → α → Bool) (x : α) (xs : List α) : (insB lt x xs).length = xs.length + 1 := (insB_perm lt x xs).length_eq
theorem sortB_perm' (lt : α → α → Bool) : ∀ (xs s : List α), (xs.foldl (fun s x => insB lt x s) s).Perm (s ++ xs)
  | [], s => by simp
  | x :: r, s => by
    refine (sortB_perm' lt r (insB lt x s)).trans (((insB_perm lt x s).append_right r).trans ?_)
    exact List.perm_middle.symm
theorem sortB_perm (lt : α → α → Bool) (xs : List α) : (sortB lt xs).Perm xs := by
  have := sortB_perm' lt xs []
  rw [List.nil_append] at this
  exact this
theorem sortB_length (lt : α → α → Bool) (xs : List α) : (sortB lt xs).length = xs.length := (sortB_perm lt xs).length_eq
theorem sortB_mem {lt : α → α → Bool} {xs : List α} {x : α} : x ∈ sortB lt xs ↔ x ∈ xs := (sortB_perm lt xs).mem_iff
theorem sortB_snoc (lt : α → α → Bool) (xs : List α) (x : α) : sortB lt (xs ++ [x]) = insB lt x (sortB lt xs) := by simp [sortB, List.foldl_append]
theorem takeWhile_cong {p q : α → Bool} : ∀ {xs : List α}, (∀ y ∈ xs, p y = q y) → xs.takeWhile p = xs.takeWhile q
  | [], _ => rfl
  | y :: r, h => by
    rw [List.takeWhile_cons, List.takeWhile_cons, h y List.mem_cons_self, takeWhile_cong (fun z hz => h z (List.mem_cons_of_mem _ hz))]
theorem insB_cong {lt lt' : α → α → Bool} {x : α} {xs : List α} (h : ∀ y ∈ xs, lt x y = lt' x y) : insB lt x xs = insB lt' x xs := by
  unfold insB
  rw [takeWhile_cong (p := lt x) (q := lt' x) (fun y hy => h y (List.mem_reverse.1 hy))]
theorem sortB_cong {lt lt' : α → α → Bool} {R : α → α → Prop} (hR : ∀ x y, R y x → lt x y = lt' x y) : ∀ {xs : List α}, xs.Pairwise R → sortB lt xs = sortB lt' xs := by
  have key : ∀ (xs s : List α), (∀ y ∈ s, ∀ x ∈ xs, R y x) → xs.Pairwise R → xs.foldl (fun s x => insB lt x s) s = xs.foldl (fun s x => insB lt' x s) s := by
    intro xs
    induction xs with
    | nil => intros; rfl
    | cons x r ih =>
      intro s hs hp
      rw [List.pairwise_cons] at hp
      simp only [List.foldl_cons]
      rw [insB_cong (lt := lt) (lt' := lt') (fun y hy => hR x y (hs y hy x List.mem_cons_self))]
      refine ih _ (fun y hy z hz => ?_) hp.2
      rcases List.mem_cons.1 ((insB_perm lt' x s).mem_iff.1 hy) with rfl | hy
      · exact hp.1 z hz
      · exact hs y hy z (List.mem_cons_of_mem _ hz)
  intro xs hp
  exact key xs [] (by simp) hp
end

/-! ### Lists of pledges -/
def rowOf (m : List Pledge) (t : ByteArray) : List Pledge := m.filter fun x => decide (x.thing = t)
def code26 (m : List Pledge) (p : Pledge) : Int :=
  if mayPledge p = false then 1 else
  if (m.any fun x => decide (x.thing = p.thing) && decide (x.debtor ≠ p.debtor)) = true then 8 else
  if (m.any fun x => decide (x.thing = p.thing) && decide (x.creditor = p.creditor)) = true then 5 else
  if (m.any fun x => decide (x.thing = p.thing) && (x.held && p.held)) = true then 9 else
  if 4096 ≤ m.length then 7 else 0
def pledge26 (m : List Pledge) (p : Pledge) : List Pledge := if code26 m p = 0 then m ++ [p] else m
def stays (t c : ByteArray) (x : Pledge) : Bool := decide (x.thing ≠ t) || decide (x.creditor ≠ c)
def rel26 (m : List Pledge) (t c : ByteArray) : List Pledge := m.filter (stays t c)
def relCode (m : List Pledge) (t c : ByteArray) : Int := if (rel26 m t c).length = m.length then 4 else 0
/-- Does x stand ahead of y, that came ahead of it? -/
def passes (x y : Pledge) : Bool := decide (rankI x y < 0)
def aheadP (y x : Pledge) : Bool := if y.held = true ∨ x.held = true then y.held else decide (y.day ≤ x.day)
def rank26 (m : List Pledge) (t : ByteArray) : List Pledge := sortB passes (rowOf m t)
def refRank (m : List Pledge) (t : ByteArray) : List Pledge := sortB (fun x y => !aheadP y x) (rowOf m t)

/-- What may stand in a document's list. -/
structure Doc (m : List Pledge) : Prop where
  may : ∀ p ∈ m, mayPledge p = true
  debtor : ∀ p ∈ m, ∀ q ∈ m, p.thing = q.thing → p.debtor = q.debtor
  creditor : m.Pairwise fun p q => p.thing = q.thing → p.creditor ≠ q.creditor
  held : m.Pairwise fun p q => p.thing = q.thing → ¬ (p.held = true ∧ q.held = true)
  size : m.length ≤ 4096

theorem may_of {p : Pledge} (h : mayPledge p = true) : p.thing.size ≤ 16 ∧ p.debtor.size ≤ 16 ∧ p.creditor.size ≤ 16 ∧ (0 ≤ p.day ∧ p.day ≤ 1048576) ∧ (1 ≤ p.amount ∧ p.amount ≤ 1099511627776) := by
  simp only [mayPledge, isName, Bool.and_eq_true, decide_eq_true_eq] at h
  exact ⟨h.1.1.2, h.2.1.1.2, h.2.2.1.1.2, h.2.2.2.2.1, h.2.2.2.2.2⟩
theorem Doc.nil : Doc [] := ⟨by simp, by simp, .nil, .nil, by simp⟩

theorem rowOf_mem {m : List Pledge} {t : ByteArray} {x : Pledge} : x ∈ rowOf m t ↔ x ∈ m ∧ x.thing = t := by simp [rowOf]
theorem rowOf_sub (m : List Pledge) (t : ByteArray) : List.Sublist (rowOf m t) m := List.filter_sublist
theorem Doc.rowCreditor {m : List Pledge} (h : Doc m) (t : ByteArray) : (rowOf m t).Pairwise fun p q => p.creditor ≠ q.creditor := by
  have := h.creditor.sublist (rowOf_sub m t)
  exact this.imp_of_mem fun ha hb hr => hr ((rowOf_mem.1 ha).2.trans (rowOf_mem.1 hb).2.symm)
theorem Doc.rowHeld {m : List Pledge} (h : Doc m) (t : ByteArray) : (rowOf m t).Pairwise fun p q => ¬ (p.held = true ∧ q.held = true) := by
  have := h.held.sublist (rowOf_sub m t)
  exact this.imp_of_mem fun ha hb hr => hr ((rowOf_mem.1 ha).2.trans (rowOf_mem.1 hb).2.symm)

theorem passes_ahead {x y : Pledge} (h : ¬ (y.held = true ∧ x.held = true)) : passes x y = !aheadP y x := by
  obtain ⟨_, _, _, dx, _, hx⟩ := x
  obtain ⟨_, _, _, dy, _, hy⟩ := y
  simp only [passes, aheadP, rankI, firstP, cmpI, orI] at h ⊢
  cases hx <;> cases hy <;> simp at h ⊢
  by_cases h1 : dx < dy
  · simp [h1]
  · by_cases h2 : dy < dx <;> simp [h1, h2] <;> omega
theorem refRank_eq {m : List Pledge} (h : Doc m) (t : ByteArray) : refRank m t = rank26 m t :=
  (sortB_cong (R := fun y x => ¬ (y.held = true ∧ x.held = true)) (fun _ _ hr => passes_ahead hr) (h.rowHeld t)).symm

theorem rowOf_length (m : List Pledge) (t : ByteArray) : (rowOf m t).length ≤ m.length := List.length_filter_le _ _
theorem rank_length (m : List Pledge) (t : ByteArray) : (rank26 m t).length = (rowOf m t).length := sortB_length _ _

/-! ### Payment -/
/-- What the first deed pays: entries, who got how much, what is left. -/
def payE : List Pledge → Int → List Entry × List (ByteArray × Int) × Int
  | [], s => ([], [], s)
  | p :: r, s =>
    if 0 < min s p.amount then
      let q := payE r (s - min s p.amount)
      (⟨p.creditor, ByteArray.empty, min s p.amount⟩ :: q.1, (p.creditor, min s p.amount) :: q.2.1, q.2.2)
    else payE r s
def leftX (G : List (ByteArray × Int)) (x : Pledge) : Option Pledge :=
  if 0 < x.amount - (klook x.creditor G).getD 0 then some { x with amount := x.amount - (klook x.creditor G).getD 0 } else none
def lessX (t c : ByteArray) (n : Int) (x : Pledge) : Option Pledge :=
  if x.thing = t ∧ x.creditor = c then (if x.amount - n = 0 then none else some { x with amount := x.amount - n }) else some x
def less (t c : ByteArray) (n : Int) (m : List Pledge) : List Pledge := m.filterMap (lessX t c n)
def payX (t : ByteArray) (G : List (ByteArray × Int)) (x : Pledge) : Option Pledge := if x.thing = t then leftX G x else some x
/-- The document's list behind a payment. -/
def pay26 (m : List Pledge) (t : ByteArray) (s : Int) : List Pledge := m.filterMap (payX t (payE (rank26 m t) s).2.1)

theorem filterMap_cong {α β : Type} {f g : α → Option β} : ∀ {l : List α}, (∀ x ∈ l, f x = g x) → l.filterMap f = l.filterMap g
  | [], _ => rfl
  | x :: r, h => by
    have ih := filterMap_cong (f := f) (g := g) (l := r) fun y hy => h y (List.mem_cons_of_mem _ hy)
    have e := h x List.mem_cons_self
    cases hx : f x with
    | none => rw [List.filterMap_cons_none hx, List.filterMap_cons_none (e ▸ hx), ih]
    | some z => rw [List.filterMap_cons_some hx, List.filterMap_cons_some (e ▸ hx), ih]
theorem pairwise_at {α : Type} {R : α → α → Prop} (hs : ∀ a b, R a b → R b a) : ∀ {l : List α}, l.Pairwise R → ∀ {x y}, x ∈ l → y ∈ l → x ≠ y → R x y
  | [], _, _, _, h, _, _ => by cases h
  | z :: r, hp, x, y, hx, hy, hne => by
    rw [List.pairwise_cons] at hp
    rcases List.mem_cons.1 hx with e1 | h1 <;> rcases List.mem_cons.1 hy with e2 | h2
    · exact absurd (e1.trans e2.symm) hne
    · rw [e1]; exact hp.1 y h2
    · rw [e2]; exact hs _ _ (hp.1 x h1)
    · exact pairwise_at hs hp.2 h1 h2 hne
theorem payE_keys : ∀ (r : List Pledge) (s : Int), ∀ c ∈ (payE r s).2.1.map (·.1), ∃ p ∈ r, p.creditor = c
  | [], s, c, h => by simp [payE] at h
  | p :: r, s, c, h => by
    simp only [payE] at h
    split at h
    · simp only [List.map_cons, List.mem_cons] at h
      rcases h with rfl | h
      · exact ⟨p, List.mem_cons_self, rfl⟩
      · obtain ⟨q, hq, e⟩ := payE_keys r _ c h
        exact ⟨q, List.mem_cons_of_mem _ hq, e⟩
    · obtain ⟨q, hq, e⟩ := payE_keys r _ c h
      exact ⟨q, List.mem_cons_of_mem _ hq, e⟩
theorem klook_none {K V : Type} [DecidableEq K] {k : K} : ∀ {l : List (K × V)}, klook k l = none ↔ k ∉ l.map (·.1)
  | [] => by simp [klook]
  | (k', v) :: r => by
    simp only [klook, List.map_cons, List.mem_cons, not_or]
    by_cases h : k = k'
    · simp [h]
    · simp [h, klook_none (l := r)]
theorem klook_mem {K V : Type} [DecidableEq K] {k : K} {v : V} : ∀ {l : List (K × V)}, klook k l = some v → (k, v) ∈ l
  | [], h => by simp [klook] at h
  | (k', v') :: r, h => by
    simp only [klook] at h
    split at h
    · cases h; rename_i e; subst e; exact List.mem_cons_self
    · exact List.mem_cons_of_mem _ (klook_mem h)

theorem payE_nodup : ∀ (r : List Pledge) (s : Int), r.Pairwise (fun p q => p.creditor ≠ q.creditor) → ((payE r s).2.1.map (·.1)).Nodup
  | [], s, _ => by simp [payE]
  | p :: r, s, h => by
    rw [List.pairwise_cons] at h
    simp only [payE]
    split
    · simp only [List.map_cons, List.nodup_cons]
      refine ⟨fun hm => ?_, payE_nodup r _ h.2⟩
      obtain ⟨q, hq, e⟩ := payE_keys r _ _ hm
      exact h.1 q hq e.symm
    · exact payE_nodup r _ h.2
/-- What each one gets: at most what was pledged, and something. -/
theorem payE_most : ∀ (r : List Pledge) (s : Int), ∀ y ∈ (payE r s).2.1, ∃ p ∈ r, p.creditor = y.1 ∧ y.2 ≤ p.amount ∧ 0 < y.2
  | [], s, y, h => by simp [payE] at h
  | p :: r, s, y, h => by
    simp only [payE] at h
    split at h
    · simp only [List.mem_cons] at h
      rcases h with rfl | h
      · exact ⟨p, List.mem_cons_self, rfl, Int.min_le_right _ _, by assumption⟩
      · obtain ⟨q, hq, e⟩ := payE_most r _ y h
        exact ⟨q, List.mem_cons_of_mem _ hq, e⟩
    · obtain ⟨q, hq, e⟩ := payE_most r _ y h
      exact ⟨q, List.mem_cons_of_mem _ hq, e⟩

theorem lessX_payX {t c : ByteArray} {n : Int} {G : List (ByteArray × Int)} {x : Pledge} (hc : c ∉ G.map (·.1)) (hn : x.thing = t → x.creditor = c → n ≤ x.amount) (h0 : 0 < x.amount) :
    (lessX t c n x).bind (payX t G) = payX t ((c, n) :: G) x := by
  unfold lessX
  by_cases h : x.thing = t ∧ x.creditor = c
  · obtain ⟨h1, h2⟩ := h
    have hn := hn h1 h2
    rw [if_pos ⟨h1, h2⟩]
    subst h1 h2
    have hk : klook x.creditor G = none := klook_none.2 hc
    by_cases h3 : x.amount - n = 0
    · rw [if_pos h3]
      simp only [Option.bind_none, payX, leftX, klook, if_true, Option.getD_some]
      rw [if_neg (by omega)]
    · rw [if_neg h3]
      simp only [Option.bind_some, payX, leftX, klook, if_true, Option.getD_some, hk, Option.getD_none]
      rw [if_pos (by omega), if_pos (by omega)]
      simp
  · rw [if_neg h]
    simp only [Option.bind_some, payX]
    by_cases h1 : x.thing = t
    · have h2 : x.creditor ≠ c := fun e => h ⟨h1, e⟩
      simp only [h1, if_true, leftX, klook, if_neg h2]
    · simp only [if_neg h1]
theorem less_fold {t : ByteArray} : ∀ (G : List (ByteArray × Int)) (m : List Pledge), (G.map (·.1)).Nodup → (∀ x ∈ m, 0 < x.amount) → (∀ y ∈ G, ∀ x ∈ m, x.thing = t → x.creditor = y.1 → y.2 ≤ x.amount) →
    G.foldl (fun m y => less t y.1 y.2 m) m = m.filterMap (payX t G)
  | [], m, _, h0, _ => by
    have : ∀ (l : List Pledge), (∀ x ∈ l, 0 < x.amount) → l.filterMap (payX t []) = l := by
      intro l
      induction l with
      | nil => intro _; rfl
      | cons x r ih =>
        intro h
        have e : payX t [] x = some x := by
          unfold payX leftX
          simp only [klook, Option.getD_none, Int.sub_zero]
          rw [if_pos (h x List.mem_cons_self)]
          split <;> rfl
        rw [List.filterMap_cons_some e, ih fun y hy => h y (List.mem_cons_of_mem _ hy)]
    exact (this m h0).symm
  | (c, n) :: G, m, hn, h0, hm => by
    simp only [List.map_cons, List.nodup_cons] at hn
    rw [List.foldl_cons]
    have hx' : ∀ z ∈ less t c n m, ∃ x ∈ m, lessX t c n x = some z := fun z hz => by
      simpa [less, List.mem_filterMap] using hz
    have hz0 : ∀ x ∈ m, ∀ z, lessX t c n x = some z → 0 < z.amount ∧ z.thing = x.thing ∧ z.creditor = x.creditor ∧ (¬ (x.thing = t ∧ x.creditor = c) → z = x) := fun x hx z hz => by
      unfold lessX at hz
      split at hz
      · rename_i h
        have := hm (c, n) List.mem_cons_self x hx h.1 h.2
        split at hz
        · cases hz
        · cases hz; exact ⟨by simp only at this ⊢; omega, rfl, rfl, fun hh => absurd h hh⟩
      · cases hz; exact ⟨h0 x hx, rfl, rfl, fun _ => rfl⟩
    rw [less_fold G (less t c n m) hn.2 (fun z hz => by obtain ⟨x, hx, e⟩ := hx' z hz; exact (hz0 x hx z e).1) (fun y hy z hz ht hc => by
      obtain ⟨x, hx, e⟩ := hx' z hz
      obtain ⟨_, e1, e2, e3⟩ := hz0 x hx z e
      have hne : ¬ (x.thing = t ∧ x.creditor = c) := fun hh => hn.1 (by
        rw [← hh.2, ← e2, hc]; exact List.mem_map_of_mem hy)
      rw [e3 hne]
      exact hm y (List.mem_cons_of_mem _ hy) x hx (e1 ▸ ht) (e2 ▸ hc))]
    unfold less
    rw [List.filterMap_filterMap]
    refine filterMap_cong fun x hx => lessX_payX hn.1 (fun h1 h2 => hm (c, n) List.mem_cons_self x hx h1 h2) (h0 x hx)

theorem Doc.pos {m : List Pledge} (h : Doc m) : ∀ x ∈ m, 0 < x.amount := fun x hx => by have := (may_of (h.may x hx)).2.2.2.2.1; omega
theorem Doc.same {m : List Pledge} (h : Doc m) {x y : Pledge} (hx : x ∈ m) (hy : y ∈ m) (h1 : x.thing = y.thing) (h2 : x.creditor = y.creditor) : x = y := by
  by_cases e : x = y
  · exact e
  · have hs : ∀ a b : Pledge, (a.thing = b.thing → a.creditor ≠ b.creditor) → (b.thing = a.thing → b.creditor ≠ a.creditor) := fun a b hab e1 e2 => hab e1.symm e2.symm
    have := pairwise_at hs h.creditor hx hy e
    exact absurd h2 (this h1)
theorem Doc.rankMem {m : List Pledge} {t : ByteArray} {x : Pledge} (h : x ∈ rank26 m t) : x ∈ m ∧ x.thing = t := rowOf_mem.1 (sortB_mem.1 h)
theorem Doc.rankCreditor {m : List Pledge} (h : Doc m) (t : ByteArray) : (rank26 m t).Pairwise fun p q => p.creditor ≠ q.creditor :=
  ((sortB_perm passes (rowOf m t)).pairwise_iff (fun h => h.symm)).2 (h.rowCreditor t)
theorem pay_fold {m : List Pledge} (h : Doc m) (t : ByteArray) (s : Int) : (payE (rank26 m t) s).2.1.foldl (fun m y => less t y.1 y.2 m) m = pay26 m t s := by
  refine less_fold _ m (payE_nodup _ _ (h.rankCreditor t)) h.pos fun y hy x hx h1 h2 => ?_
  obtain ⟨p, hp, e1, e2, _⟩ := payE_most _ _ y hy
  obtain ⟨hp1, hp2⟩ := Doc.rankMem hp
  have : x = p := h.same hx hp1 (h1.trans hp2.symm) (h2.trans e1.symm)
  rw [this]; exact e2

/-! ### What the things' rows are -/
theorem rowOf_pledge (m : List Pledge) (p : Pledge) (t : ByteArray) : rowOf (m ++ [p]) t = if p.thing = t then rowOf m t ++ [p] else rowOf m t := by
  unfold rowOf
  rw [List.filter_append]
  split <;> simp [*]
theorem rowOf_rel (m : List Pledge) (t c u : ByteArray) : rowOf (rel26 m t c) u = if u = t then (rowOf m t).filter (fun x => decide (x.creditor ≠ c)) else rowOf m u := by
  unfold rowOf rel26
  rw [List.filter_filter]
  split
  · rename_i e
    subst e
    rw [List.filter_filter]
    refine List.filter_congr fun x _ => ?_
    by_cases h : x.thing = u <;> simp [stays, h]
  · rename_i e
    refine List.filter_congr fun x _ => ?_
    by_cases h : x.thing = u
    · subst h; simp [stays, e]
    · simp [h]
theorem payX_thing {t : ByteArray} {G : List (ByteArray × Int)} {x z : Pledge} (h : payX t G x = some z) : z.thing = x.thing ∧ z.creditor = x.creditor ∧ z.debtor = x.debtor ∧ z.held = x.held ∧ z.day = x.day := by
  unfold payX leftX at h
  split at h
  · split at h
    · cases h; exact ⟨rfl, rfl, rfl, rfl, rfl⟩
    · cases h
  · cases h; exact ⟨rfl, rfl, rfl, rfl, rfl⟩
theorem rowOf_payX (t u : ByteArray) (G : List (ByteArray × Int)) : ∀ m : List Pledge, rowOf (m.filterMap (payX t G)) u = (rowOf m u).filterMap (payX t G)
  | [] => rfl
  | x :: r => by
    have ih := rowOf_payX t u G r
    cases hp : payX t G x with
    | none =>
      rw [List.filterMap_cons_none hp, ih]
      unfold rowOf
      rw [List.filter_cons]
      split
      · rw [List.filterMap_cons_none hp]
      · rfl
    | some z =>
      rw [List.filterMap_cons_some hp]
      have e := (payX_thing hp).1
      unfold rowOf at ih ⊢
      rw [List.filter_cons, List.filter_cons, e]
      split
      · rw [ih, List.filterMap_cons_some hp]
      · exact ih
theorem rowOf_pay (m : List Pledge) (t u : ByteArray) (s : Int) : rowOf (pay26 m t s) u = if u = t then (rowOf m t).filterMap (leftX (payE (rank26 m t) s).2.1) else rowOf m u := by
  unfold pay26
  rw [rowOf_payX]
  split
  · rename_i e
    subst e
    refine filterMap_cong fun x hx => ?_
    simp [payX, (rowOf_mem.1 hx).2]
  · rename_i e
    have : ∀ l : List Pledge, (∀ x ∈ l, x.thing ≠ t) → l.filterMap (payX t (payE (rank26 m t) s).2.1) = l := by
      intro l
      induction l with
      | nil => intro _; rfl
      | cons x r ih =>
        intro h
        rw [List.filterMap_cons_some (show payX t _ x = some x by unfold payX; rw [if_neg (h x List.mem_cons_self)]), ih fun y hy => h y (List.mem_cons_of_mem _ hy)]
    exact this _ fun x hx e' => e ((rowOf_mem.1 hx).2.symm.trans e')

/-! ### What stays right -/
theorem Doc.sub {m m' : List Pledge} (h : Doc m) (hs : List.Sublist m' m) : Doc m' :=
  ⟨fun p hp => h.may p (hs.subset hp), fun p hp q hq => h.debtor p (hs.subset hp) q (hs.subset hq), h.creditor.sublist hs, h.held.sublist hs, Nat.le_trans hs.length_le h.size⟩
theorem Doc.rel {m : List Pledge} (h : Doc m) (t c : ByteArray) : Doc (rel26 m t c) := h.sub List.filter_sublist
theorem Doc.payD {m : List Pledge} (h : Doc m) {t : ByteArray} {G : List (ByteArray × Int)} (hG : ∀ y ∈ G, 0 < y.2) : Doc (m.filterMap (payX t G)) := by
  have hz : ∀ z ∈ m.filterMap (payX t G), ∃ x ∈ m, payX t G x = some z := fun z hz => by simpa [List.mem_filterMap] using hz
  have hg : ∀ c, 0 ≤ (klook c G).getD 0 := fun c => by
    cases hk : klook c G with
    | none => simp
    | some n => have := hG _ (klook_mem hk); simp only [Option.getD_some] at this ⊢; omega
  refine ⟨fun z hz' => ?_, fun p hp q hq e => ?_, ?_, ?_, ?_⟩
  · obtain ⟨x, hx, e⟩ := hz z hz'
    have hm := h.may x hx
    unfold payX leftX at e
    have := hg x.creditor
    split at e
    · split at e
      · cases e
        simp only [mayPledge, Bool.and_eq_true, decide_eq_true_eq] at hm ⊢
        refine ⟨hm.1, hm.2.1, hm.2.2.1, hm.2.2.2.1, hm.2.2.2.2.1, ?_, ?_⟩
        · omega
        · have := hm.2.2.2.2.2.2; omega
      · cases e
    · cases e; exact hm
  · obtain ⟨x, hx, e1⟩ := hz p hp
    obtain ⟨y, hy, e2⟩ := hz q hq
    rw [(payX_thing e1).2.2.1, (payX_thing e2).2.2.1]
    exact h.debtor x hx y hy (by rw [← (payX_thing e1).1, ← (payX_thing e2).1, e])
  · rw [List.pairwise_filterMap]
    refine h.creditor.imp fun {x y} hr z hz' z' hz'' e => ?_
    rw [(payX_thing hz').2.1, (payX_thing hz'').2.1]
    exact hr (by rw [← (payX_thing hz').1, ← (payX_thing hz'').1, e])
  · rw [List.pairwise_filterMap]
    refine h.held.imp fun {x y} hr z hz' z' hz'' e => ?_
    rw [(payX_thing hz').2.2.2.1, (payX_thing hz'').2.2.2.1]
    exact hr (by rw [← (payX_thing hz').1, ← (payX_thing hz'').1, e])
  · exact Nat.le_trans (List.length_filterMap_le _ _) h.size
theorem Doc.pay {m : List Pledge} (h : Doc m) (t : ByteArray) (s : Int) : Doc (pay26 m t s) := h.payD fun y hy => (payE_most _ _ y hy).choose_spec.2.2.2
theorem Doc.pledge {m : List Pledge} (h : Doc m) (p : Pledge) : Doc (pledge26 m p) := by
  unfold pledge26
  split
  · rename_i hc
    unfold code26 at hc
    repeat' split at hc
    all_goals try (exfalso; omega)
    rename_i h1 h2 h3 h4 h5
    simp only [List.any_eq_true, Bool.and_eq_true, decide_eq_true_eq, not_exists, not_and] at h2 h3 h4
    have hp : mayPledge p = true := by cases hp : mayPledge p <;> simp_all
    refine ⟨fun q hq => ?_, fun q hq r hr e => ?_, ?_, ?_, ?_⟩
    · rcases List.mem_append.1 hq with hq | hq
      · exact h.may q hq
      · rw [List.mem_singleton.1 hq]; exact hp
    · rcases List.mem_append.1 hq with hq | hq <;> rcases List.mem_append.1 hr with hr | hr
      · exact h.debtor q hq r hr e
      · rw [List.mem_singleton.1 hr] at e ⊢
        by_cases hd : q.debtor = p.debtor
        · exact hd
        · exact absurd hd (h2 q hq e)
      · rw [List.mem_singleton.1 hq] at e ⊢
        by_cases hd : r.debtor = p.debtor
        · exact hd.symm
        · exact absurd hd (h2 r hr e.symm)
      · rw [List.mem_singleton.1 hq, List.mem_singleton.1 hr]
    · rw [List.pairwise_append]
      refine ⟨h.creditor, List.pairwise_singleton _ _, fun q hq r hr e => ?_⟩
      rw [List.mem_singleton.1 hr] at e ⊢
      exact h3 q hq e
    · rw [List.pairwise_append]
      refine ⟨h.held, List.pairwise_singleton _ _, fun q hq r hr e => ?_⟩
      rw [List.mem_singleton.1 hr] at e ⊢
      intro hh
      exact h4 q hq e hh.1 hh.2
    · rw [List.length_append, List.length_singleton]; omega
  · exact h

end Go.Proofs.Ytnapfiheholhiaa
