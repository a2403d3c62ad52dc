/-
  The walk of the statement LienReleases. Conditions: none.
-/
import Derived.Test.YtnapfiheholhiaaApart
set_option linter.unusedVariables false
set_option linter.unusedSimpArgs false
namespace Go.Proofs.YtnapfiheholhiaaSym
open Go Go.RowKit
theorem JE.isArg3 {P : Program} {n : Nat} {ops : Array Oper} {pl : Plan} {S : World → Prop} {E : List Entry} {Q : Post} {f : Fr} {i : Nat} {b : Bool} {dst : Option Tmp} {T : TypeId} {pos : String} {af : Array Edge} {g : Option (Nat × Bool)} (t : Tmp) {x y : Operand} {ce : Callee} {ts : Array TypeId}
    (h : JE P n ops pl S ((i, ⟨dst, .call { callee := ce, args := #[.tmp t, x, y], argTypes := ts }, T, pos, af, g⟩, b) :: E) Q f) : JE P n ops pl S ((i, ⟨dst, .call { callee := ce, args := #[.tmp t, x, y], argTypes := ts }, T, pos, af, g⟩, b) :: E) Q f := h
end Go.Proofs.YtnapfiheholhiaaSym

namespace Go.Proofs.Ytnapfiheholhiaa
open Go Go.RowKit Go.Proofs.YtnapfiheholhiaaSym

/-! ### Ranks and what is struck from them -/
section
variable {α : Type} {lt : α → α → Bool}
/-- Nobody passes whoever stands ahead. -/
def Ranked (lt : α → α → Bool) (s : List α) : Prop := s.Pairwise fun y z => lt z y = false
/-- An order whose 'does not pass' hands on. -/
structure WeakR (lt : α → α → Bool) : Prop where
  neg : ∀ x y z, lt x y = true → lt z y = false → lt x z = true
  asym : ∀ x y, lt x y = true → lt y x = false

theorem insR_split (hw : WeakR lt) {x : α} {s : List α} (hs : Ranked lt s) : ∃ A B, s = A ++ B ∧ insB lt x s = A ++ x :: B ∧ (∀ y ∈ A, lt x y = false) ∧ (∀ y ∈ B, lt x y = true) := by
  have hk : (s.reverse.takeWhile (lt x)).length ≤ s.length := by
    have := (List.takeWhile_sublist (l := s.reverse) (lt x)).length_le
    simpa using this
  refine ⟨s.take (s.length - (s.reverse.takeWhile (lt x)).length), s.drop (s.length - (s.reverse.takeWhile (lt x)).length), (List.take_append_drop _ _).symm, rfl, ?_, ?_⟩
  · -- the last of the first part does not pass; those ahead of it neither
    have hrev : s = (s.reverse.dropWhile (lt x)).reverse ++ (s.reverse.takeWhile (lt x)).reverse := by
      rw [← List.reverse_append, List.takeWhile_append_dropWhile, List.reverse_reverse]
    have hl : (s.reverse.dropWhile (lt x)).reverse.length = s.length - (s.reverse.takeWhile (lt x)).length := by
      have := congrArg List.length (List.takeWhile_append_dropWhile (p := lt x) (l := s.reverse))
      rw [List.length_append, List.length_reverse] at this
      rw [List.length_reverse]; omega
    have ht : s.take (s.length - (s.reverse.takeWhile (lt x)).length) = (s.reverse.dropWhile (lt x)).reverse := by
      rw [← hl]
      exact (congrArg (List.take _) hrev).trans List.take_left
    rw [ht]
    intro y hy
    rw [List.mem_reverse] at hy
    cases hd : s.reverse.dropWhile (lt x) with
    | nil => rw [hd] at hy; cases hy
    | cons z r =>
      have hz : lt x z = false := by
        have := List.head_dropWhile_not (p := lt x) (l := s.reverse) (by rw [hd]; simp)
        simpa [hd] using this
      rw [hd] at hy
      rcases List.mem_cons.1 hy with rfl | hy
      · exact hz
      · -- y stands ahead of z
        have hs' := hs
        rw [hrev, hd] at hs'
        unfold Ranked at hs'
        rw [List.pairwise_append, List.reverse_cons, List.pairwise_append] at hs'
        have hzy : lt z y = false := hs'.1.2.2 y (by simpa using hy) z (by simp)
        cases hxy : lt x y with
        | false => rfl
        | true => have := hw.neg x y z hxy hzy; rw [this] at hz; cases hz
  · have hrev : s = (s.reverse.dropWhile (lt x)).reverse ++ (s.reverse.takeWhile (lt x)).reverse := by
      rw [← List.reverse_append, List.takeWhile_append_dropWhile, List.reverse_reverse]
    have hl : (s.reverse.dropWhile (lt x)).reverse.length = s.length - (s.reverse.takeWhile (lt x)).length := by
      have := congrArg List.length (List.takeWhile_append_dropWhile (p := lt x) (l := s.reverse))
      rw [List.length_append, List.length_reverse] at this
      rw [List.length_reverse]; omega
    have ht : s.drop (s.length - (s.reverse.takeWhile (lt x)).length) = (s.reverse.takeWhile (lt x)).reverse := by
      rw [← hl]
      exact (congrArg (List.drop _) hrev).trans List.drop_left
    rw [ht]
    intro y hy
    rw [List.mem_reverse] at hy
    have := List.all_takeWhile (p := lt x) (l := s.reverse)
    exact List.all_eq_true.1 this y hy
theorem insB_ranked (hw : WeakR lt) {x : α} {s : List α} (hs : Ranked lt s) : Ranked lt (insB lt x s) := by
  obtain ⟨A, B, rfl, e, hA, hB⟩ := insR_split hw (x := x) hs
  rw [e]
  unfold Ranked at *
  rw [List.pairwise_append] at hs ⊢
  refine ⟨hs.1, List.pairwise_cons.2 ⟨fun y hy => hw.asym x y (hB y hy), hs.2.1⟩, fun y hy z hz => ?_⟩
  rcases List.mem_cons.1 hz with rfl | hz
  · exact hA y hy
  · exact hs.2.2 y hy z hz
theorem sortB_ranked (hw : WeakR lt) (xs : List α) : Ranked lt (sortB lt xs) := by
  have key : ∀ (xs s : List α), Ranked lt s → Ranked lt (xs.foldl (fun s x => insB lt x s) s) := by
    intro xs
    induction xs with
    | nil => intro s h; exact h
    | cons x r ih => intro s h; exact ih _ (insB_ranked hw h)
  exact key xs [] .nil
/-- An insertion that is told by its two parts. -/
theorem insB_parts {x : α} {A B : List α} (hA : ∀ y ∈ A, lt x y = false) (hB : ∀ y ∈ B, lt x y = true) : insB lt x (A ++ B) = A ++ x :: B := by
  have h := insB_at (lt := lt) (x := x) (xs := A ++ B) (at' := A.length) (by simp) (fun j y hj hy => by
    rw [List.getElem?_append_right hj] at hy
    exact hB y (List.mem_of_getElem? hy)) (by
    rcases Nat.eq_zero_or_pos A.length with h | h
    · exact .inl h
    · refine .inr ⟨A[A.length - 1], ?_, hA _ (List.getElem_mem _)⟩
      rw [List.getElem?_append_left (by omega)]
      exact List.getElem?_eq_getElem (by omega))
  rw [h, List.take_left, List.drop_left]
theorem insB_filter (hw : WeakR lt) {x : α} {s : List α} (hs : Ranked lt s) (q : α → Bool) : (insB lt x s).filter q = if q x = true then insB lt x (s.filter q) else s.filter q := by
  obtain ⟨A, B, rfl, e, hA, hB⟩ := insR_split hw (x := x) hs
  rw [e, List.filter_append, List.filter_append, List.filter_cons]
  split
  · rw [insB_parts (fun y hy => hA y (List.mem_filter.1 hy).1) (fun y hy => hB y (List.mem_filter.1 hy).1)]
  · rfl
theorem sortB_filter (hw : WeakR lt) (q : α → Bool) (xs : List α) : sortB lt (xs.filter q) = (sortB lt xs).filter q := by
  have key : ∀ (xs s : List α), Ranked lt s → (xs.filter q).foldl (fun s x => insB lt x s) (s.filter q) = (xs.foldl (fun s x => insB lt x s) s).filter q := by
    intro xs
    induction xs with
    | nil => intro s _; rfl
    | cons x r ih =>
      intro s h
      rw [List.foldl_cons, ← ih _ (insB_ranked hw h), insB_filter hw h, List.filter_cons]
      split <;> rfl
  exact key xs [] .nil
end
theorem passes_weakR : WeakR passes := by
  refine ⟨fun x y z => ?_, fun x y => ?_⟩
  · obtain ⟨_, _, _, dx, _, hx⟩ := x
    obtain ⟨_, _, _, dy, _, hy⟩ := y
    obtain ⟨_, _, _, dz, _, hz⟩ := z
    simp only [passes, rankI, firstP, cmpI, orI, decide_eq_true_eq, decide_eq_false_iff_not]
    cases hx <;> cases hy <;> cases hz <;> simp <;> (repeat' split) <;> omega
  · obtain ⟨_, _, _, dx, _, hx⟩ := x
    obtain ⟨_, _, _, dy, _, hy⟩ := y
    simp only [passes, rankI, firstP, cmpI, orI, decide_eq_true_eq, decide_eq_false_iff_not]
    cases hx <;> cases hy <;> simp <;> (repeat' split) <;> omega
theorem rank_rel {m : List Pledge} (t c : ByteArray) : rank26 (rel26 m t c) t = (rank26 m t).filter fun x => decide (x.creditor ≠ c) := by
  rw [rank26, rowOf_rel, if_pos rfl, sortB_filter passes_weakR]; rfl

/-! ### May -/
theorem mayF_calls (p : Pledge) (c : ByteArray) (b : Nat) (w : World) (hb : w.heap[b]? = some (cel [.string c] 9)) :
    Does Try.prog 36 [.agg (encPledge p).toArray, .pointer (some ⟨b, 0, none⟩)] w (Ret w (.bool (decide (p.creditor ≠ c)))) := by
  refine calls_J (ys := [.agg (encPledge p).toArray, .pointer (some ⟨b, 0, none⟩)]) Try.func36 rfl Try.ntmps36 rfl ?_
  refine J.at_ ?_ (St.startO (l := [(b, cel [.string c] 9)]) (by simp [hb]) (by simp))
  simp only [List.map_cons, List.map_nil]
  repeat' (first
    | refine JE.pure rfl rfl (by conv => lhs; whnf) rfl ?_
    | (refine JE.kBin ?_; (refine JE.neStr rfl rfl rfl rfl ?_; with_reducible refine JE.waysD (fun _ => ?_) (fun _ => ?_)))
    | (refine JE.kField ?_; refine JE.fieldAddr rfl rfl rfl ?_)
    | (refine JE.kLoad ?_; refine JE.load1 rfl rfl (by repeat (first | exact In.head | refine In.tail ?_ | refine In.app ?_)) rfl (by conv => lhs; whnf) (fun _ => by first | trivial | exact ⟨.inr ‹_›, trivial⟩ | exact ⟨.inl (by kernel_rfl), trivial⟩ | exact ⟨.inr ‹_›, .inr ‹_›, trivial⟩ | exact ⟨.inr ‹_›, .inl (by kernel_rfl), trivial⟩ | exact ⟨.inl (by kernel_rfl), .inr ‹_›, trivial⟩ | exact ⟨.inl (by kernel_rfl), .inl (by kernel_rfl), trivial⟩) rfl ?_)
    | (refine JE.kBox ?_; refine JE.box rfl (by conv => lhs; whnf) rfl (fun _ _ => ?_))
    | with_reducible refine JE.sN ?_
    | with_reducible refine J.seq ?_
    | with_reducible refine J.region ?_
    | with_reducible refine J.ret ?_)
  all_goals refine fnQ_tmp (.inl rfl) rfl (by conv => lhs; whnf) fun w' hS => ⟨?_, hS.belowO (by simp [hb])⟩
  all_goals simp_all
theorem may_calls {p : Nat} {m : List Pledge} {l : List (Nat × Obj)} (hL : Lien p m l) (t c : ByteArray) (w : World) (hown : ∀ x ∈ l, w.heap[x.1]? = some x.2) (hnd : (l.map (·.1)).Nodup) :
    Does Try.prog 18 [.pointer (some ⟨p, 0, none⟩), .string t, .string c] w (Ret w (.bool (!(rowOf m t).any fun x => decide (x.creditor ≠ c)))) := by
  obtain ⟨bm, mo, R, rfl, hM, hR, hD⟩ := hL
  have hrl : (rowOf m t).length ≤ 4096 := Nat.le_trans (rowOf_length m t) hD.size
  obtain ⟨v, ln, hlk, ho, hperm, hnil⟩ := hR.look t
  have hcf := fun bc w hb hl => ContainsFuncP_calls 36 [.pointer (some ⟨bc, 0, none⟩)] (fun y => decide (y.creditor ≠ c)) v (rowOf m t) w (fun q w' hb' => mayF_calls q c bc w' (below_get hb' hb)) (ho.sl encP_len hl) (by omega)
  refine calls_J (ys := [.pointer (some ⟨p, 0, none⟩), .string t, .string c]) Try.func18 rfl Try.ntmps18 rfl ?_
  refine J.at_ ?_ (St.startO hown hnd)
  obtain ⟨olds, holds⟩ : ∃ o, o = (LienO p bm mo R).map (·.1) := ⟨_, rfl⟩
  rw [← holds]
  refine J.perm (l' := (p, cel [.map (some bm)] 60) :: (bm, mo) :: (ln ++ _)) ((hperm.cons _).cons _) ?_
  repeat' (first
    | (refine JE.kBox ?_; refine JE.box rfl (by conv => lhs; whnf) rfl (fun bc hbc => ?_))
    | refine JE.pure rfl rfl (by conv => lhs; whnf) rfl ?_
    | (refine JE.kField ?_; refine JE.fieldAddr rfl rfl rfl ?_)
    | (refine JE.kNil ?_; refine JE.nilCheck rfl rfl rfl ?_)
    | (refine JE.kLoad ?_; refine JE.load1 rfl rfl (by repeat (first | exact In.head | refine In.tail ?_ | refine In.app ?_)) rfl (by conv => lhs; whnf) (fun _ => by first | trivial | exact ⟨.inr ‹_›, trivial⟩ | exact ⟨.inl (by kernel_rfl), trivial⟩ | exact ⟨.inr ‹_›, .inr ‹_›, trivial⟩ | exact ⟨.inr ‹_›, .inl (by kernel_rfl), trivial⟩ | exact ⟨.inl (by kernel_rfl), .inr ‹_›, trivial⟩ | exact ⟨.inl (by kernel_rfl), .inl (by kernel_rfl), trivial⟩) rfl ?_)
    | with_reducible refine JE.sN ?_
    | with_reducible refine J.seq ?_
    | with_reducible refine J.region ?_
    | with_reducible refine J.ret ?_
    | (refine JE.kLookup ?_; refine JE.lookupV (encK := Value.string) (encV := encSV) (k := t) rfl rfl rfl (.tail (.tail .head)) hM hlk (fun _ => by first | trivial | exact ⟨.inr ‹_›, trivial⟩ | exact ⟨.inl (by kernel_rfl), trivial⟩ | exact ⟨.inr ‹_›, .inr ‹_›, trivial⟩ | exact ⟨.inr ‹_›, .inl (by kernel_rfl), trivial⟩ | exact ⟨.inl (by kernel_rfl), .inr ‹_›, trivial⟩ | exact ⟨.inl (by kernel_rfl), .inl (by kernel_rfl), trivial⟩) rfl ?_)
    | (refine JE.isF 35 ?_; refine JE.call rfl rfl (by repeat (first | exact NfL.nil rfl | apply NfL.cons (by exact rfl) (by conv => lhs; whnf))) rfl ?_; refine CallG.ret (fun w hS => hcf bc w (hS.get .head) (hS.owns (by repeat (first | exact Seg.head | exact Seg.all | exact Seg.one | apply Seg.tail | apply Seg.cons)))) ?_))
  all_goals exact fnQ_tmp (.inl rfl) rfl (by conv => lhs; whnf) fun w'' hS' => ⟨rfl, (hS'.tl.perm ((hperm.symm.cons _).cons _)).quietO hown (fun k hk => holds ▸ hk)⟩

end Go.Proofs.Ytnapfiheholhiaa
