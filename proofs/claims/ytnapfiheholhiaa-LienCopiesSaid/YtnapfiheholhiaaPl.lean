/-
  slices.IndexFunc and slices.ContainsFunc over pledges. Conditions: none.
-/
import Derived.Test.YtnapfiheholhiaaLien1
set_option linter.unusedVariables false
set_option linter.unusedSimpArgs false
namespace Go.Proofs.Ytnapfiheholhiaa
open Go Go.RowKit Go.Proofs.YtnapfiheholhiaaSym

/-! ### slices.ContainsFunc over pledges -/
/-- The first place of a number of which p holds; -1: there is none. -/
def idxP (p : Pledge → Bool) (xs : List Pledge) : Int :=
  match xs.findIdx? p with
  | some i => i
  | none => -1
theorem idxP_at {p : Pledge → Bool} {xs : List Pledge} {k : Nat} {x : Pledge} (hk : xs[k]? = some x) (hp : p x = true) (hb : ∀ (j : Nat) y, j < k → xs[j]? = some y → p y = false) : idxP p xs = k := by
  obtain ⟨hl, rfl⟩ := List.getElem?_eq_some_iff.1 hk
  have : xs.findIdx? p = some k := by
    rw [List.findIdx?_eq_some_iff_getElem]
    exact ⟨hl, hp, fun j hj => by simp [hb j _ hj (List.getElem?_eq_getElem (by omega))]⟩
  simp [idxP, this]
theorem idxP_none {p : Pledge → Bool} {xs : List Pledge} (hb : ∀ (j : Nat) y, xs[j]? = some y → p y = false) : idxP p xs = -1 := by
  have : xs.findIdx? p = none := by
    rw [List.findIdx?_eq_none_iff]
    intro x hx
    obtain ⟨j, hj, rfl⟩ := List.mem_iff_getElem.1 hx
    exact hb j _ (List.getElem?_eq_getElem hj)
  simp [idxP, this]
theorem idxP_any (p : Pledge → Bool) (xs : List Pledge) : decide (0 ≤ idxP p xs) = xs.any p := by
  unfold idxP
  cases h : xs.findIdx? p with
  | none =>
    rw [List.findIdx?_eq_none_iff] at h
    simp only [Int.reduceNeg, Int.reduceLE, decide_false]
    symm
    rw [List.any_eq_false]
    intro x hx
    simp [h x hx]
  | some k =>
    rw [List.findIdx?_eq_some_iff_getElem] at h
    obtain ⟨hl, h1, _⟩ := h
    have : xs.any p = true := List.any_eq_true.2 ⟨_, List.getElem_mem hl, h1⟩
    rw [this]
    simp

set_option maxHeartbeats 400000 in
theorem IndexFuncP_calls (h : FuncId) [EntersF Try.prog h] (cs : List Value) (p : Pledge → Bool) (v : Value) (xs : List Pledge) (w : World) (hp : ∀ c w', Below w.heap.size w w' → Does Try.prog h (.agg (encPledge c).toArray :: cs) w' (Ret w' (.bool (p c))))
    (hs : Sl 6 encPledge w v xs) (hx : xs.length ≤ 9223372036854775807) :
    Does Try.prog 32 [v, .func (.func h) #[] cs.toArray] w (Ret w (.int .i64 (idxP p xs))) := by
  obtain ⟨a, c, rfl, hs⟩ := hs
  refine calls_J (ys := [.slice a xs.length c, .func (.func h) #[] cs.toArray]) Try.func32 rfl Try.ntmps32 rfl ?_
  refine J.at_ (S := St w [] []) ?_ (St.start w)
  repeat' (first
    | refine JE.pure rfl rfl (by conv => lhs; whnf) rfl ?_
    | (refine JE.kBuiltin ?_; refine JE.lenSl rfl rfl rfl ?_)
    | with_reducible refine JE.sN ?_
    | with_reducible refine J.seq ?_
    | with_reducible refine J.region ?_
    | with_reducible refine J.block ?_)
  refine J.loop (fun f w' => ∃ k : Nat, k ≤ xs.length ∧ (∀ (j : Nat) y, j < k → xs[j]? = some y → p y = false) ∧ Has f [(0, .slice a xs.length c), (1, .func (.func h) #[] cs.toArray), (7, .int .i64 xs.length), (8, .int .i64 k)] ∧ St w [] [] w')
    (fun f _ => xs.length - (intOf (f 8)).toNat) (fun w' hS => ⟨0, Nat.zero_le _, fun _ _ hj => absurd hj (Nat.not_lt_zero _), (by repeat' (first | exact trivial | refine And.intro (by rfl) ?_)), hS⟩) ?_
  rintro f w' ⟨k, hk, hbef, hf, hS⟩
  obtain ⟨g, rfl⟩ := hf.eq
  clear hf
  by_cases hlt : k < xs.length
  · obtain ⟨B, off, rfl, hr⟩ := hs (by intro e; rw [e] at hlt; simp at hlt)
    have hxk : xs[k]? = some xs[k] := List.getElem?_eq_getElem hlt
    refine J.at_ ?_ hS
    repeat' (first
      | refine JE.pure rfl rfl (by conv => lhs; whnf) rfl ?_
      | (refine JE.kBin ?_; (refine JE.int rfl rfl rfl rfl rfl rfl ?_; with_reducible refine JE.waysD (fun _ => ?_) (fun _ => ?_)))
      | (refine JE.kBin ?_; refine JE.int rfl rfl rfl rfl (by rw [i64_id (by omega)]) rfl ?_)
      | with_reducible refine JE.sN ?_
      | with_reducible refine JE.sX ?_
      | with_reducible refine J.seq ?_
      | with_reducible refine J.region ?_
      | refine J.condT rfl ?_
      | refine J.condF rfl ?_
      | with_reducible refine J.skip ?_
      | with_reducible refine J.exit ?_
      | with_reducible refine J.block ?_
      | with_reducible refine J.ret ?_
      | with_reducible refine JX.thenN ?_
      | with_reducible refine JX.thenR ?_
      | with_reducible refine JX.thenE ?_
      | with_reducible refine JX.blkS ?_
      | with_reducible refine JX.blkN ?_
      | with_reducible refine JX.blkR ?_
      | refine JE.indexAddr rfl rfl rfl (Int.natCast_nonneg _) (by omega) rfl ?_
      | refine JE.loadRow rfl rfl hr (by simp) hxk rfl rfl (fun _ => trivial) rfl ?_
      | (refine JE.isV ?_; refine JE.callC rfl rfl (by repeat (first | exact NfL.nil rfl | apply NfL.cons (by exact rfl) (by conv => lhs; whnf))) rfl ?_; refine CallG.ret (fun w hS => hp _ w hS.below) ?_; with_reducible refine JE.ways (fun _ => ?_) (fun _ => ?_)))
    · refine fnQ_tmp (.inl rfl) rfl (by conv => lhs; whnf) fun w'' hS' => ⟨?_, hS'.below⟩
      rename_i hq
      rw [idxP_at hxk hq hbef]
    · rename_i hq
      refine JX.round fun w'' hS' => ⟨⟨k + 1, hlt, fun j y hj hy => ?_, (by repeat' (first | exact trivial | refine And.intro (by rfl) ?_)), hS'⟩, ?_⟩
      · by_cases e : j = k
        · subst e; rw [hxk] at hy; cases hy; exact hq
        · exact hbef j y (by omega) hy
      · show xs.length - ((k : Int) + 1).toNat < xs.length - ((k : Int)).toNat
        omega
    · exfalso; omega
  · refine J.at_ ?_ hS
    repeat' (first
      | refine JE.pure rfl rfl (by conv => lhs; whnf) rfl ?_
      | (refine JE.kBin ?_; (refine JE.int rfl rfl rfl rfl rfl rfl ?_; with_reducible refine JE.waysD (fun _ => ?_) (fun _ => ?_)))
      | with_reducible refine JE.sN ?_
      | with_reducible refine J.seq ?_
      | with_reducible refine J.region ?_
      | refine J.condT rfl ?_
      | refine J.condF rfl ?_
      | with_reducible refine J.skip ?_
      | with_reducible refine J.exit ?_
      | with_reducible refine J.block ?_
      | with_reducible refine J.ret ?_
      | with_reducible refine JX.thenN ?_
      | with_reducible refine JX.thenE ?_
      | with_reducible refine JX.blkS ?_)
    · exfalso; omega
    · refine fnQ_tmp (.inl rfl) rfl (by conv => lhs; whnf) fun w'' hS' => ⟨?_, hS'.below⟩
      rw [idxP_none fun j y hy => hbef j y (by have := (List.getElem?_eq_some_iff.1 hy).1; omega) hy]

theorem ContainsFuncP_calls (h : FuncId) [EntersF Try.prog h] (cs : List Value) (p : Pledge → Bool) (v : Value) (xs : List Pledge) (w : World) (hp : ∀ c w', Below w.heap.size w w' → Does Try.prog h (.agg (encPledge c).toArray :: cs) w' (Ret w' (.bool (p c))))
    (hs : Sl 6 encPledge w v xs) (hx : xs.length ≤ 9223372036854775807) :
    Does Try.prog 35 [v, .func (.func h) #[] cs.toArray] w (Ret w (.bool (xs.any p))) := by
  rw [← idxP_any]
  refine calls_J (ys := [v, .func (.func h) #[] cs.toArray]) Try.func35 rfl Try.ntmps35 rfl ?_
  refine J.at_ (S := St w [] []) ?_ (St.start w)
  repeat' (first
    | refine JE.pure rfl rfl (by conv => lhs; whnf) rfl ?_
    | (refine JE.kBin ?_; (refine JE.int rfl rfl rfl rfl rfl rfl ?_; with_reducible refine JE.waysD (fun _ => ?_) (fun _ => ?_)))
    | with_reducible refine JE.sN ?_
    | with_reducible refine J.seq ?_
    | with_reducible refine J.region ?_
    | with_reducible refine J.ret ?_
    | (refine JE.isF 32 ?_; refine JE.call rfl rfl (by repeat (first | exact NfL.nil rfl | apply NfL.cons (by exact rfl) (by conv => lhs; whnf))) rfl ?_; refine CallG.ret (fun w hS => IndexFuncP_calls h cs p v xs w (fun c w' hb => hp c w' (hS.below.trans (hb.mono hS.size))) (hs.below hS.below) hx) ?_))
  all_goals refine fnQ_tmp (.inl rfl) rfl (by conv => lhs; whnf) fun w' hS => ⟨?_, hS.below⟩
  all_goals (first | (simp_all []; done) | (simp_all [] <;> (intros; omega)))


end Go.Proofs.Ytnapfiheholhiaa
