/-
  The walks of the document's own code of layer 26. Conditions: none.
-/
import Derived.Test.YtnapfiheholhiaaStab
set_option linter.unusedVariables false
set_option linter.unusedSimpArgs false
namespace Go.Proofs.Ytnapfiheholhiaa
open Go Go.RowKit Go.Proofs.YtnapfiheholhiaaSym

theorem sl_one {α : Type} {k : Nat} {enc : α → List Value} {w : World} {B : Nat} {e : TypeId} (hk : ∀ x, (enc x).length = k) (x : α) (hb : w.heap[B]? = some (cel (enc x) e)) : Sl k enc w (.slice (some ⟨B, 0, none⟩) 1 1) [x] :=
  Sl.flat hk [x] w B e 1 (enc x) hb ⟨[], by simp⟩
/-- The list as it was, or a new one. -/
def Back (vm : Value) (m m' : List Pledge) (v : Value) (ln : List (Nat × Obj)) : Prop := (v = vm ∧ m' = m ∧ ln = []) ∨ Own 6 encPledge 37 v m' ln

theorem ahead_calls (y x : Pledge) (w : World) : Does Try.prog 55 [.agg (encPledge y).toArray, .agg (encPledge x).toArray] w (Ret w (.bool (aheadP y x))) := by
  refine calls_J (ys := [.agg (encPledge y).toArray, .agg (encPledge x).toArray]) Try.func55 rfl Try.ntmps55 rfl ?_
  refine J.at_ (S := St w [] []) ?_ (St.start w)
  cases hy : y.held <;> cases hx : x.held <;> simp only [encPledge, hy, hx]
  all_goals skip
  repeat' (first
    | refine JE.pure rfl rfl (by conv => lhs; whnf) rfl ?_
    | refine JE.skip rfl rfl ?_
    | (refine JE.kBin ?_; (refine JE.int rfl rfl rfl rfl rfl rfl ?_; with_reducible refine JE.waysD (fun _ => ?_) (fun _ => ?_)))
    | (refine JE.kField ?_; refine JE.fieldAddr rfl rfl rfl ?_)
    | (refine JE.kLoad ?_; refine JE.load1 rfl rfl (by repeat (first | exact In.head | refine In.tail ?_ | refine In.app ?_)) rfl (by conv => lhs; whnf) (fun _ => by first | trivial | exact ⟨.inr ‹_›, trivial⟩ | exact ⟨.inl (by kernel_rfl), trivial⟩ | exact ⟨.inr ‹_›, .inr ‹_›, trivial⟩ | exact ⟨.inr ‹_›, .inl (by kernel_rfl), trivial⟩ | exact ⟨.inl (by kernel_rfl), .inr ‹_›, trivial⟩ | exact ⟨.inl (by kernel_rfl), .inl (by kernel_rfl), trivial⟩) rfl ?_)
    | (refine JE.kBox ?_; refine JE.box rfl (by conv => lhs; whnf) rfl (fun _ _ => ?_))
    | with_reducible refine JE.sN ?_
    | with_reducible refine J.seq ?_
    | with_reducible refine J.region ?_
    | refine J.condT rfl ?_
    | refine J.condF rfl ?_
    | with_reducible refine J.skip ?_
    | with_reducible refine J.ret ?_
    | with_reducible refine JX.thenN ?_
    | with_reducible refine JX.thenR ?_)
  all_goals refine fnQ_tmp (.inl rfl) rfl (by conv => lhs; whnf) fun w' hS => ⟨?_, hS.below⟩
  all_goals simp_all [aheadP]

theorem filter_take {α : Type} {p : α → Bool} {m : List α} {k : Nat} {x : α} (hx : m[k]? = some x) : (m.take (k + 1)).filter p = (m.take k).filter p ++ (if p x = true then [x] else []) := by
  rw [List.take_add_one, hx, List.filter_append]
  congr 1
  cases h : p x <;> simp [h]

set_option maxHeartbeats 1000000 in
theorem refRelease_calls (vm : Value) (m : List Pledge) (t c : ByteArray) (w : World) (hs : Sl 6 encPledge w vm m) (hl : m.length ≤ 4096) :
    Does Try.prog 43 [vm, .string t, .string c] w (RetN w fun u ln => ∃ v', u = .tuple #[v', .int .i64 (relCode m t c)] ∧ Back vm m (rel26 m t c) v' ln) := by
  have hs0 := hs
  obtain ⟨a, cp, rfl, hs⟩ := hs
  refine calls_J (ys := [.slice a m.length cp, .string t, .string c]) Try.func43 rfl Try.ntmps43 rfl ?_
  refine J.at_ (S := St w [] []) ?_ (St.start w)
  repeat' (first
    | refine JE.pure rfl rfl (by conv => lhs; whnf) rfl ?_
    | with_reducible refine JE.sN ?_
    | with_reducible refine J.seq ?_
    | with_reducible refine J.region ?_
    | with_reducible refine J.block ?_
    | (refine JE.kBuildSlice ?_; refine JE.buildSlice0 rfl rfl (fun _ _ => ?_)))
  refine J.loop (fun f w' => ∃ (k : Nat) (v : Value) (ln : List (Nat × Obj)), k ≤ m.length ∧ Own 6 encPledge 37 v ((m.take k).filter (stays t c)) ln ∧ Has f [(0, .slice a m.length cp), (1, .string t), (2, .string c), (8, v), (9, .int .i64 k)] ∧ St w [] ln w')
    (fun f _ => m.length - (intOf (f 9)).toNat) (fun w' hS => ⟨0, _, _, Nat.zero_le _, Own.empty, (by repeat' (first | exact trivial | refine And.intro (by rfl) ?_)), hS⟩) ?_
  rintro f w' ⟨k, v, ln, hk, ho, hf, hS⟩
  obtain ⟨g, rfl⟩ := hf.eq
  clear hf
  refine J.at_ ?_ hS
  by_cases hlt : k < m.length
  · obtain ⟨B, off, rfl, hr⟩ := hs (by intro e; rw [e] at hlt; simp at hlt)
    have hxk : m[k]? = some m[k] := List.getElem?_eq_getElem hlt
    have hft := filter_take (p := stays t c) hxk
    generalize m[k] = x at hxk hft
    have hfl : ((m.take k).filter (stays t c)).length ≤ 4096 := Nat.le_trans (List.length_filter_le _ _) (by simp; omega)
    repeat' (first
      | refine JE.pure rfl rfl (by conv => lhs; whnf) rfl ?_
      | refine JE.skip rfl rfl ?_
      | (refine JE.kBin ?_; (refine JE.int rfl rfl rfl rfl rfl rfl ?_; with_reducible refine JE.waysD (fun _ => ?_) (fun _ => ?_)))
      | (refine JE.kBin ?_; refine JE.int rfl rfl rfl rfl (by rw [i64_id (by omega)]) rfl ?_)
      | (refine JE.kBin ?_; (refine JE.neStr rfl rfl rfl rfl ?_; with_reducible refine JE.waysD (fun _ => ?_) (fun _ => ?_)))
      | (refine JE.kField ?_; refine JE.fieldAddr rfl rfl rfl ?_)
      | (refine JE.kBuiltin ?_; refine JE.lenSl rfl rfl rfl ?_)
      | (refine JE.kBuildSlice ?_; refine JE.buildSlice rfl rfl rfl (by conv => lhs; whnf) (by rfl) (by rfl) (by repeat (first | exact NfL.nil rfl | apply NfL.cons (by exact rfl) (by conv => lhs; whnf))) rfl (fun _ _ => ?_))
      | with_reducible refine JE.sN ?_
      | with_reducible refine JE.sX ?_
      | with_reducible refine J.seq ?_
      | with_reducible refine J.region ?_
      | refine J.condT rfl ?_
      | refine J.condF rfl ?_
      | with_reducible refine J.skip ?_
      | with_reducible refine J.exit ?_
      | with_reducible refine J.block ?_
      | with_reducible refine JX.thenN ?_
      | with_reducible refine JX.thenE ?_
      | with_reducible refine JX.blkS ?_
      | with_reducible refine JX.blkN ?_
      | (refine JE.kIndexAddr ?_; refine JE.indexAddr rfl rfl rfl (Int.natCast_nonneg _) (by omega) rfl ?_)
      | (refine JE.kLoad ?_; refine JE.loadRowC rfl rfl hr (by simp) hxk rfl rfl (fun _ => trivial) rfl ?_)
      | (refine JE.kLoad ?_; refine JE.loadRow rfl rfl hr (by simp) hxk rfl rfl (fun _ => trivial) rfl ?_)
      | (refine JE.kBuiltin ?_; refine JE.appendOwn rfl rfl rfl (ho) (by repeat (first | exact Seg.head | exact Seg.all | exact Seg.one | apply Seg.tail | apply Seg.cons)) (fun _ => rfl) (fun _ => rfl) (fun w hS => sl_one encP_len x (hS.own _ (.head _))) (by (try simp only [List.length_cons, List.length_nil, List.length_append, List.length_drop, List.length_take, maxLen] at *); omega) (by (try simp only [List.length_cons, List.length_nil, List.length_append, List.length_drop, List.length_take, maxLen] at *); omega) (fun _ _ _ _ => trivial) rfl (fun _ _ _ => ?_)))
    all_goals first
      | (exfalso; omega)
      | (refine JX.round fun w'' hS' => ⟨⟨k + 1, _, _, hlt, ?_, (by repeat' (first | exact trivial | refine And.intro (by rfl) ?_)), hS'.sub (List.sublist_append_left _ _)⟩, ?_⟩
         · rw [hft, if_pos (by simp [stays]; first | (left; assumption) | (right; assumption))]; assumption
         · show m.length - ((k : Int) + 1).toNat < m.length - ((k : Int)).toNat
           omega)
      | (refine JX.round fun w'' hS' => ⟨⟨k + 1, _, _, hlt, ?_, (by repeat' (first | exact trivial | refine And.intro (by rfl) ?_)), hS'⟩, ?_⟩
         · rw [hft, if_neg (by simp_all [stays]), List.append_nil]; exact ho
         · show m.length - ((k : Int) + 1).toNat < m.length - ((k : Int)).toNat
           omega)
  · have hk' : k = m.length := by omega
    rw [hk', List.take_length] at ho
    obtain ⟨a2, c2, rfl, _⟩ := ho.shape
    repeat' (first
      | refine JE.pure rfl rfl (by conv => lhs; whnf) rfl ?_
      | (refine JE.kBin ?_; (refine JE.int rfl rfl rfl rfl rfl rfl ?_; with_reducible refine JE.waysD (fun _ => ?_) (fun _ => ?_)))
      | (refine JE.kBuiltin ?_; refine JE.lenSl rfl rfl rfl ?_)
      | with_reducible refine JE.sN ?_
      | with_reducible refine J.seq ?_
      | with_reducible refine J.region ?_
      | refine J.condT rfl ?_
      | refine J.condF rfl ?_
      | with_reducible refine J.skip ?_
      | with_reducible refine J.exit ?_
      | with_reducible refine J.block ?_
      | with_reducible refine J.ret ?_
      | with_reducible refine JX.thenN ?_
      | with_reducible refine JX.thenR ?_
      | with_reducible refine JX.thenE ?_
      | with_reducible refine JX.blkS ?_)
    · exfalso; omega
    · rename_i he
      have he' : (rel26 m t c).length = m.length := by have := Int.ofNat.inj he; exact this
      refine fnQ_tmp2 (.inl rfl) rfl (by conv => lhs; whnf) (by conv => lhs; whnf) fun w'' hS' => ⟨_, [], rfl, ⟨_, ?_, .inl ⟨rfl, List.filter_eq_self.2 (List.length_filter_eq_length_iff.1 he'), rfl⟩⟩, hS'.sub (List.nil_sublist _)⟩
      rw [relCode, if_pos he']
    · rename_i he
      have he' : ¬ (rel26 m t c).length = m.length := fun e => he (congrArg Int.ofNat e)
      refine fnQ_tmp2 (.inl rfl) rfl (by conv => lhs; whnf) (by conv => lhs; whnf) fun w'' hS' => ⟨_, _, rfl, ⟨_, ?_, .inr ho⟩, hS'⟩
      rw [relCode, if_neg he']

theorem code26_8 {m : List Pledge} {p x : Pledge} {k : Nat} (hmay : mayPledge p = true) (hx : m[k]? = some x) (h1 : x.thing = p.thing) (h2 : x.debtor ≠ p.debtor) : code26 m p = 8 := by
  have : (m.any fun x => decide (x.thing = p.thing) && decide (x.debtor ≠ p.debtor)) = true := List.any_eq_true.2 ⟨x, List.mem_of_getElem? hx, by simp [h1, h2]⟩
  rw [code26, if_neg (by simp [hmay]), if_pos this]
def bothHeld (p x : Pledge) : Bool := decide (x.thing = p.thing) && (x.held && p.held)
theorem any_take {α : Type} {q : α → Bool} {m : List α} {k : Nat} {x : α} (hx : m[k]? = some x) : (m.take (k + 1)).any q = ((m.take k).any q || q x) := by
  rw [List.take_add_one, hx, List.any_append]; simp

theorem code26_5 {m : List Pledge} {p x : Pledge} {k : Nat} (hmay : mayPledge p = true) (hb : ∀ (j : Nat) y, m[j]? = some y → ¬ (y.thing = p.thing ∧ y.debtor ≠ p.debtor)) (hx : m[k]? = some x) (h1 : x.thing = p.thing) (h2 : x.creditor = p.creditor) : code26 m p = 5 := by
  have e8 : ¬ (m.any fun x => decide (x.thing = p.thing) && decide (x.debtor ≠ p.debtor)) = true := by
    rw [List.any_eq_true]
    rintro ⟨y, hy, h⟩
    obtain ⟨j, hj, rfl⟩ := List.mem_iff_getElem.1 hy
    exact hb j _ (List.getElem?_eq_getElem hj) (by simpa using h)
  have : (m.any fun x => decide (x.thing = p.thing) && decide (x.creditor = p.creditor)) = true := List.any_eq_true.2 ⟨x, List.mem_of_getElem? hx, by simp [h1, h2]⟩
  rw [code26, if_neg (by simp [hmay]), if_neg e8, if_pos this]
theorem code26_end {m : List Pledge} {p : Pledge} (hmay : mayPledge p = true) (hb : ∀ (j : Nat) y, m[j]? = some y → ¬ (y.thing = p.thing ∧ y.debtor ≠ p.debtor)) (hb2 : ∀ (j : Nat) y, m[j]? = some y → ¬ (y.thing = p.thing ∧ y.creditor = p.creditor)) :
    code26 m p = if m.any (bothHeld p) = true then 9 else if 4096 ≤ m.length then 7 else 0 := by
  have e8 : ¬ (m.any fun x => decide (x.thing = p.thing) && decide (x.debtor ≠ p.debtor)) = true := by
    rw [List.any_eq_true]
    rintro ⟨y, hy, h⟩
    obtain ⟨j, hj, rfl⟩ := List.mem_iff_getElem.1 hy
    exact hb j _ (List.getElem?_eq_getElem hj) (by simpa using h)
  have e5 : ¬ (m.any fun x => decide (x.thing = p.thing) && decide (x.creditor = p.creditor)) = true := by
    rw [List.any_eq_true]
    rintro ⟨y, hy, h⟩
    obtain ⟨j, hj, rfl⟩ := List.mem_iff_getElem.1 hy
    exact hb2 j _ (List.getElem?_eq_getElem hj) (by simpa using h)
  rw [code26, if_neg (by simp [hmay]), if_neg e8, if_neg e5]
  rfl

set_option maxHeartbeats 2000000 in
theorem refPledge_calls (vm : Value) (m : List Pledge) (p : Pledge) (hp : Fits p) (w : World) (hs : Sl 6 encPledge w vm m) (hl : m.length ≤ 4096) :
    Does Try.prog 42 [vm, .agg (encPledge p).toArray] w (RetN w fun u ln => ∃ v', u = .tuple #[v', .int .i64 (code26 m p)] ∧ Back vm m (pledge26 m p) v' ln) := by
  have hs0 := hs
  obtain ⟨a, cp, rfl, hs⟩ := hs
  refine calls_J (ys := [.slice a m.length cp, .agg (encPledge p).toArray]) Try.func42 rfl Try.ntmps42 rfl ?_
  refine J.at_ (S := St w [] []) ?_ (St.start w)
  cases hmay : mayPledge p with
  | false =>
    have hc := refMay_calls p hp
    rw [hmay] at hc
    repeat' (first
      | refine JE.pure rfl rfl (by conv => lhs; whnf) rfl ?_
      | (refine JE.kLoad ?_; refine JE.loadAll rfl rfl (by repeat (first | exact In.head | refine In.tail ?_ | refine In.app ?_)) (by rfl) (fun _ => by first | trivial | exact ⟨.inr ‹_›, trivial⟩ | exact ⟨.inl (by kernel_rfl), trivial⟩ | exact ⟨.inr ‹_›, .inr ‹_›, trivial⟩ | exact ⟨.inr ‹_›, .inl (by kernel_rfl), trivial⟩ | exact ⟨.inl (by kernel_rfl), .inr ‹_›, trivial⟩ | exact ⟨.inl (by kernel_rfl), .inl (by kernel_rfl), trivial⟩) rfl ?_)
      | (refine JE.kBox ?_; refine JE.box rfl (by conv => lhs; whnf) rfl (fun _ _ => ?_))
      | with_reducible refine JE.sN ?_
      | with_reducible refine J.seq ?_
      | with_reducible refine J.region ?_
      | refine J.condT rfl ?_
      | with_reducible refine J.ret ?_
      | with_reducible refine JX.thenR ?_
      | (refine JE.isF 56 ?_; refine JE.call rfl rfl (by repeat (first | exact NfL.nil rfl | apply NfL.cons (by exact rfl) (by conv => lhs; whnf))) rfl ?_; refine CallG.ret (fun w hS => hc w) ?_))
    refine fnQ_tmp2 (.inl rfl) rfl (by conv => lhs; whnf) (by conv => lhs; whnf) fun w'' hS' => ⟨_, [], rfl, ⟨_, ?_, .inl ⟨rfl, ?_, rfl⟩⟩, hS'.sub (List.nil_sublist _)⟩
    · simp [code26, hmay]
    · simp [pledge26, code26, hmay]
  | true =>
    have hc := refMay_calls p hp
    rw [hmay] at hc
    repeat' (first
      | refine JE.pure rfl rfl (by conv => lhs; whnf) rfl ?_
      | (refine JE.kLoad ?_; refine JE.loadAll rfl rfl (by repeat (first | exact In.head | refine In.tail ?_ | refine In.app ?_)) (by rfl) (fun _ => by first | trivial | exact ⟨.inr ‹_›, trivial⟩ | exact ⟨.inl (by kernel_rfl), trivial⟩ | exact ⟨.inr ‹_›, .inr ‹_›, trivial⟩ | exact ⟨.inr ‹_›, .inl (by kernel_rfl), trivial⟩ | exact ⟨.inl (by kernel_rfl), .inr ‹_›, trivial⟩ | exact ⟨.inl (by kernel_rfl), .inl (by kernel_rfl), trivial⟩) rfl ?_)
      | (refine JE.kBox ?_; refine JE.box rfl (by conv => lhs; whnf) rfl (fun _ _ => ?_))
      | with_reducible refine JE.sN ?_
      | with_reducible refine J.seq ?_
      | with_reducible refine J.region ?_
      | refine J.condF rfl ?_
      | with_reducible refine J.skip ?_
      | with_reducible refine J.block ?_
      | with_reducible refine JX.thenN ?_
      | (refine JE.isF 56 ?_; refine JE.call rfl rfl (by repeat (first | exact NfL.nil rfl | apply NfL.cons (by exact rfl) (by conv => lhs; whnf))) rfl ?_; refine CallG.ret (fun w hS => hc w) ?_))
    refine J.loop (fun f w' => ∃ (k : Nat) (b3 : Nat), k ≤ m.length ∧ (∀ (j : Nat) y, j < k → m[j]? = some y → ¬ (y.thing = p.thing ∧ y.debtor ≠ p.debtor)) ∧ Has f [(0, .slice a m.length cp), (3, .pointer (some ⟨b3, 0, none⟩)), (6, .int .i64 0), (7, .int .i64 k)] ∧ St w [] [(b3, cel (encPledge p) 37)] w')
      (fun f _ => m.length - (intOf (f 7)).toNat) (fun w' hS => ⟨0, _, Nat.zero_le _, fun _ _ h => absurd h (Nat.not_lt_zero _), (by repeat' (first | exact trivial | refine And.intro (by rfl) ?_)), hS⟩) ?_
    rintro f w' ⟨k, b3, hk, hbef, hf, hS⟩
    obtain ⟨g, rfl⟩ := hf.eq
    clear hf
    refine J.at_ ?_ hS
    by_cases hlt : k < m.length
    · obtain ⟨B, off, rfl, hr⟩ := hs (by intro e; rw [e] at hlt; simp at hlt)
      have hxk : m[k]? = some m[k] := List.getElem?_eq_getElem hlt
      generalize m[k] = x at hxk
      repeat' (first
        | refine JE.pure rfl rfl (by conv => lhs; whnf) rfl ?_
        | refine JE.skip rfl rfl ?_
        | (refine JE.kBin ?_; (refine JE.int rfl rfl rfl rfl rfl rfl ?_; with_reducible refine JE.waysD (fun _ => ?_) (fun _ => ?_)))
        | (refine JE.kBin ?_; refine JE.int rfl rfl rfl rfl (by rw [i64_id (by omega)]) rfl ?_)
        | (refine JE.kBin ?_; (refine JE.eqStr rfl rfl rfl rfl ?_; with_reducible refine JE.waysD (fun _ => ?_) (fun _ => ?_)))
        | (refine JE.kBin ?_; (refine JE.neStr rfl rfl rfl rfl ?_; with_reducible refine JE.waysD (fun _ => ?_) (fun _ => ?_)))
        | (refine JE.kField ?_; refine JE.fieldAddr rfl rfl rfl ?_)
        | (refine JE.kLoad ?_; refine JE.load1 rfl rfl (by repeat (first | exact In.head | refine In.tail ?_ | refine In.app ?_)) rfl (by conv => lhs; whnf) (fun _ => by first | trivial | exact ⟨.inr ‹_›, trivial⟩ | exact ⟨.inl (by kernel_rfl), trivial⟩ | exact ⟨.inr ‹_›, .inr ‹_›, trivial⟩ | exact ⟨.inr ‹_›, .inl (by kernel_rfl), trivial⟩ | exact ⟨.inl (by kernel_rfl), .inr ‹_›, trivial⟩ | exact ⟨.inl (by kernel_rfl), .inl (by kernel_rfl), trivial⟩) rfl ?_)
        | (refine JE.kBuiltin ?_; refine JE.lenSl rfl rfl rfl ?_)
        | with_reducible refine JE.sN ?_
        | with_reducible refine JE.sX ?_
        | with_reducible refine JE.dN ?_
        | with_reducible refine J.seq ?_
        | with_reducible refine J.region ?_
        | refine J.condT rfl ?_
        | refine J.condF rfl ?_
        | with_reducible refine J.skip ?_
        | with_reducible refine J.exit ?_
        | with_reducible refine J.block ?_
        | with_reducible refine J.ret ?_
        | with_reducible refine JX.thenN ?_
        | with_reducible refine JX.thenR ?_
        | with_reducible refine JX.thenE ?_
        | with_reducible refine JX.blkS ?_
        | with_reducible refine JX.blkN ?_
        | with_reducible refine JX.blkR ?_
        | (refine J.isR 7 ?_; refine J.draw [(0, true), (1, true), (2, true), (3, true), (4, true), (5, true), (6, true), (7, true), (8, true), (9, true), (10, true), (11, true), (12, true), (13, true), (14, true), (15, true), (16, true), (17, true)] [] mixed (by kernel_rfl) (fun _ h => h.drew) ?_)
        | (refine JE.kIndexAddr ?_; refine JE.indexAddr rfl rfl rfl (Int.natCast_nonneg _) (by omega) rfl ?_)
        | (refine JE.kLoad ?_; refine JE.loadRowC rfl rfl hr (by simp) hxk rfl rfl (fun _ => trivial) rfl ?_))
      all_goals first
        | (exfalso; omega)
        | (refine fnQ_tmp2 (.inl rfl) rfl (by conv => lhs; whnf) (by conv => lhs; whnf) fun w'' hS' => ⟨_, [], rfl, ⟨_, ?_, .inl ⟨rfl, ?_, rfl⟩⟩, hS'.sub (List.nil_sublist _)⟩
           · rw [code26_8 hmay hxk ‹_› ‹_›]
           · rw [pledge26, if_neg (by rw [code26_8 hmay hxk ‹_› ‹_›]; decide)])
        | (refine JX.round fun w'' hS' => ⟨⟨k + 1, _, hlt, fun j y hj hy => ?_, (by repeat' (first | exact trivial | refine And.intro (by rfl) ?_)), hS'⟩, ?_⟩
           · rcases Nat.lt_or_ge j k with h | h
             · exact hbef j y h hy
             · have : j = k := by omega
               subst this
               rw [hxk] at hy; cases hy
               simp_all
           · show m.length - ((k : Int) + 1).toNat < m.length - ((k : Int)).toNat
             omega)
    · have hk' : k = m.length := by omega
      subst hk'
      repeat' (first
        | refine JE.pure rfl rfl (by conv => lhs; whnf) rfl ?_
        | (refine JE.kBin ?_; (refine JE.int rfl rfl rfl rfl rfl rfl ?_; with_reducible refine JE.waysD (fun _ => ?_) (fun _ => ?_)))
        | (refine JE.kBuiltin ?_; refine JE.lenSl rfl rfl rfl ?_)
        | with_reducible refine JE.sN ?_
        | with_reducible refine J.seq ?_
        | with_reducible refine J.region ?_
        | refine J.condT rfl ?_
        | refine J.condF rfl ?_
        | with_reducible refine J.skip ?_
        | with_reducible refine J.exit ?_
        | with_reducible refine J.block ?_
        | with_reducible refine JX.thenN ?_
        | with_reducible refine JX.thenE ?_
        | with_reducible refine JX.blkS ?_)
      · exfalso; omega
      · skip
        refine J.loop (fun f w' => ∃ (k : Nat) (v6 : Int), k ≤ m.length ∧ (∀ (j : Nat) y, j < k → m[j]? = some y → ¬ (y.thing = p.thing ∧ y.creditor = p.creditor)) ∧ v6 = (if (m.take k).any (bothHeld p) = true then 9 else 0) ∧ Has f [(0, .slice a m.length cp), (3, .pointer (some ⟨b3, 0, none⟩)), (6, .int .i64 v6), (8, .int .i64 k)] ∧ St w [] [(b3, cel (encPledge p) 37)] w')
          (fun f _ => m.length - (intOf (f 8)).toNat) (fun w' hS => ⟨0, 0, Nat.zero_le _, fun _ _ h => absurd h (Nat.not_lt_zero _), by simp, (by repeat' (first | exact trivial | refine And.intro (by rfl) ?_)), hS⟩) ?_
        rintro f w' ⟨k, v6, hk, hbef2, hv6, hf, hS⟩
        obtain ⟨g, rfl⟩ := hf.eq
        clear hf
        refine J.at_ ?_ hS
        by_cases hlt : k < m.length
        · obtain ⟨B, off, rfl, hr⟩ := hs (by intro e; rw [e] at hlt; simp at hlt)
          have hxk : m[k]? = some m[k] := List.getElem?_eq_getElem hlt
          generalize m[k] = x at hxk
          have hany := any_take (q := bothHeld p) hxk
          have h8 := code26_5 (p := p) hmay (fun j y hj => hbef j y (List.getElem?_eq_some_iff.1 hj).1 hj) hxk
          obtain ⟨xt, xd, xc, xday, xa, xh⟩ := x
          obtain ⟨pt, pd, pc, pday, pa, ph⟩ := p
          cases xh <;> cases ph
          all_goals skip
          repeat' (first
            | refine JE.pure rfl rfl (by conv => lhs; whnf) rfl ?_
            | refine JE.skip rfl rfl ?_
            | (refine JE.kBin ?_; (refine JE.int rfl rfl rfl rfl rfl rfl ?_; with_reducible refine JE.waysD (fun _ => ?_) (fun _ => ?_)))
            | (refine JE.kBin ?_; refine JE.int rfl rfl rfl rfl (by rw [i64_id (by omega)]) rfl ?_)
            | (refine JE.kBin ?_; (refine JE.eqStr rfl rfl rfl rfl ?_; with_reducible refine JE.waysD (fun _ => ?_) (fun _ => ?_)))
            | (refine JE.kBin ?_; (refine JE.neStr rfl rfl rfl rfl ?_; with_reducible refine JE.waysD (fun _ => ?_) (fun _ => ?_)))
            | (refine JE.kField ?_; refine JE.fieldAddr rfl rfl rfl ?_)
            | (refine JE.kLoad ?_; refine JE.load1 rfl rfl (by repeat (first | exact In.head | refine In.tail ?_ | refine In.app ?_)) rfl (by conv => lhs; whnf) (fun _ => by first | trivial | exact ⟨.inr ‹_›, trivial⟩ | exact ⟨.inl (by kernel_rfl), trivial⟩ | exact ⟨.inr ‹_›, .inr ‹_›, trivial⟩ | exact ⟨.inr ‹_›, .inl (by kernel_rfl), trivial⟩ | exact ⟨.inl (by kernel_rfl), .inr ‹_›, trivial⟩ | exact ⟨.inl (by kernel_rfl), .inl (by kernel_rfl), trivial⟩) rfl ?_)
            | (refine JE.kBuiltin ?_; refine JE.lenSl rfl rfl rfl ?_)
            | with_reducible refine JE.sN ?_
            | with_reducible refine JE.sX ?_
            | with_reducible refine JE.dN ?_
            | with_reducible refine J.seq ?_
            | with_reducible refine J.region ?_
            | refine J.condT rfl ?_
            | refine J.condF rfl ?_
            | with_reducible refine J.skip ?_
            | with_reducible refine J.exit ?_
            | with_reducible refine J.block ?_
            | with_reducible refine J.ret ?_
            | with_reducible refine JX.thenN ?_
            | with_reducible refine JX.thenR ?_
            | with_reducible refine JX.thenE ?_
            | with_reducible refine JX.blkS ?_
            | with_reducible refine JX.blkN ?_
            | with_reducible refine JX.blkR ?_
            | (refine J.isR 12 ?_; refine J.draw [(0, true), (1, true), (2, true), (3, true), (4, true), (5, true), (6, true), (7, true)] [] mixed (by kernel_rfl) (fun _ h => h.drew) ?_)
            | (refine J.isR 13 ?_; refine J.draw [(0, true), (1, true), (2, true), (3, true), (4, true), (5, true), (6, true), (7, true)] [] mixed (by kernel_rfl) (fun _ h => h.drew) ?_)
            | (refine JE.kIndexAddr ?_; refine JE.indexAddr rfl rfl rfl (Int.natCast_nonneg _) (by omega) rfl ?_)
            | (refine JE.kLoad ?_; refine JE.loadRowC rfl rfl hr (by simp) hxk rfl rfl (fun _ => trivial) rfl ?_))
          all_goals first
            | (exfalso; omega)
            | (refine fnQ_tmp2 (.inl rfl) rfl (by conv => lhs; whnf) (by conv => lhs; whnf) fun w'' hS' => ⟨_, [], rfl, ⟨_, ?_, .inl ⟨rfl, ?_, rfl⟩⟩, hS'.sub (List.nil_sublist _)⟩
               · rw [h8 (by simp_all) ‹_›]
               · rw [pledge26, if_neg (by rw [h8 (by simp_all) ‹_›]; decide)])
            | (refine JX.round fun w'' hS' => ⟨⟨k + 1, _, hlt, fun j y hj hy => ?_, ?_, (by repeat' (first | exact trivial | refine And.intro (by rfl) ?_)), hS'⟩, ?_⟩
               · rcases Nat.lt_or_ge j k with h | h
                 · exact hbef2 j y h hy
                 · have : j = k := by omega
                   subst this
                   rw [hxk] at hy; cases hy
                   simp_all
               · rw [hany]; simp_all [bothHeld]
               · show m.length - ((k : Int) + 1).toNat < m.length - ((k : Int)).toNat
                 omega)
        · have hk' : k = m.length := by omega
          subst hk'
          rw [List.take_length] at hv6
          have hcode := code26_end hmay (fun j y hj => hbef j y (List.getElem?_eq_some_iff.1 hj).1 hj) (fun j y hj => hbef2 j y (List.getElem?_eq_some_iff.1 hj).1 hj)
          cases hb9 : m.any (bothHeld p) with
          | true =>
            rw [hb9, if_pos rfl] at hv6
            rw [hb9, if_pos rfl] at hcode
            subst hv6
            repeat' (first
              | refine JE.pure rfl rfl (by conv => lhs; whnf) rfl ?_
              | refine JE.skip rfl rfl ?_
              | (refine JE.kBin ?_; (refine JE.int rfl rfl rfl rfl rfl rfl ?_; with_reducible refine JE.waysD (fun _ => ?_) (fun _ => ?_)))
              | (refine JE.kBuiltin ?_; refine JE.lenSl rfl rfl rfl ?_)
              | with_reducible refine JE.sN ?_
              | with_reducible refine J.seq ?_
              | with_reducible refine J.region ?_
              | refine J.condT rfl ?_
              | refine J.condF rfl ?_
              | with_reducible refine J.skip ?_
              | with_reducible refine J.exit ?_
              | with_reducible refine J.block ?_
              | with_reducible refine J.ret ?_
              | with_reducible refine JX.thenN ?_
              | with_reducible refine JX.thenR ?_
              | with_reducible refine JX.thenE ?_
              | with_reducible refine JX.blkS ?_)
            all_goals first
              | (exfalso; omega)
              | (refine fnQ_tmp2 (.inl rfl) rfl (by conv => lhs; whnf) (by conv => lhs; whnf) fun w'' hS' => ⟨_, [], rfl, ⟨_, ?_, .inl ⟨rfl, ?_, rfl⟩⟩, hS'.sub (List.nil_sublist _)⟩
                 · rw [hcode]
                 · rw [pledge26, if_neg (by rw [hcode]; decide)])
          | false =>
            rw [hb9, if_neg (by decide)] at hv6
            rw [hb9, if_neg (by decide)] at hcode
            subst hv6
            have hfull := hcode
            rcases Nat.lt_or_ge m.length 4096 with hless | hless
            · rw [if_neg (by omega)] at hcode
              repeat' (first
                | refine JE.pure rfl rfl (by conv => lhs; whnf) rfl ?_
                | refine JE.skip rfl rfl ?_
                | (refine JE.kBin ?_; (refine JE.int rfl rfl rfl rfl rfl rfl ?_; with_reducible refine JE.waysD (fun _ => ?_) (fun _ => ?_)))
                | (refine JE.kLoad ?_; refine JE.loadAll rfl rfl (by repeat (first | exact In.head | refine In.tail ?_ | refine In.app ?_)) (by rfl) (fun _ => by first | trivial | exact ⟨.inr ‹_›, trivial⟩ | exact ⟨.inl (by kernel_rfl), trivial⟩ | exact ⟨.inr ‹_›, .inr ‹_›, trivial⟩ | exact ⟨.inr ‹_›, .inl (by kernel_rfl), trivial⟩ | exact ⟨.inl (by kernel_rfl), .inr ‹_›, trivial⟩ | exact ⟨.inl (by kernel_rfl), .inl (by kernel_rfl), trivial⟩) rfl ?_)
                | (refine JE.kBuiltin ?_; refine JE.lenSl rfl rfl rfl ?_)
                | (refine JE.kBuildSlice ?_; refine JE.buildSlice rfl rfl rfl (by conv => lhs; whnf) (by rfl) (by rfl) (by repeat (first | exact NfL.nil rfl | apply NfL.cons (by exact rfl) (by conv => lhs; whnf))) rfl (fun _ _ => ?_))
                | (refine JE.isT ?_; first | refine JE.fork2 rfl ?_ ?_ | refine JE.fork3 rfl ?_ ?_ ?_ | refine JE.leaf1 rfl ?_ | refine JE.leaf0 rfl ?_ | refine JE.leafX1 rfl ?_ | refine JE.leafX0 rfl ?_)
                | with_reducible refine JE.sN ?_
                | with_reducible refine J.seq ?_
                | with_reducible refine J.region ?_
                | refine J.condT rfl ?_
                | refine J.condF rfl ?_
                | with_reducible refine J.skip ?_
                | with_reducible refine J.exit ?_
                | with_reducible refine J.block ?_
                | with_reducible refine J.ret ?_
                | with_reducible refine JX.thenN ?_
                | with_reducible refine JX.thenR ?_
                | with_reducible refine JX.thenE ?_
                | with_reducible refine JX.blkS ?_
                | (refine J.isR 21 ?_; refine J.drawTL 3 ([(1, true)], [(0, ([], [(2, ([(3, false), (4, false), (5, false), (6, true), (7, true)], [])), (3, ([], [(2, [(4, false), (5, false), (6, true), (7, true)]), (4, [(2, false), (5, false), (6, true), (7, true)])]))])), (3, ([], [(0, ([], [(2, [(4, false), (5, false), (6, true), (7, true)]), (4, [(2, false), (5, false), (6, true), (7, true)])])), (4, ([(0, false), (2, false), (5, false), (6, true), (7, true)], []))]))]) mixed (by kernel_rfl) (fun _ h => h.drew) ?_)
                | (refine JE.kBuildSlice ?_; refine JE.buildSlice0 rfl rfl (fun _ _ => ?_))
                | (refine JE.isAppT 81 ?_; (refine JE.kBuiltin ?_; refine JE.appendOwn rfl rfl rfl ((Own.empty (k := 6) (enc := encPledge))) (by repeat (first | exact Seg.head | exact Seg.all | exact Seg.one | apply Seg.tail | apply Seg.cons)) (fun _ => rfl) (fun _ => rfl) (fun w hS => hs0.below hS.below) (by (try simp only [List.length_cons, List.length_nil, List.length_append, List.length_drop, List.length_take, maxLen] at *); omega) (by (try simp only [List.length_cons, List.length_nil, List.length_append, List.length_drop, List.length_take, maxLen] at *); omega) (fun _ _ _ _ => trivial) rfl (fun _ _ _ => ?_)))
                | (refine JE.isAppT 83 ?_; (refine JE.kBuiltin ?_; refine JE.appendOwn rfl rfl rfl ((show Own 6 encPledge 37 _ _ _ by assumption)) (by repeat (first | exact Seg.head | exact Seg.all | exact Seg.one | apply Seg.tail | apply Seg.cons)) (fun _ => rfl) (fun _ => rfl) (fun w hS => sl_one encP_len p (hS.get (by repeat (first | exact In.head | refine In.tail ?_ | refine In.app ?_)))) (by (try simp only [List.length_cons, List.length_nil, List.length_append, List.length_drop, List.length_take, maxLen] at *); omega) (by (try simp only [List.length_cons, List.length_nil, List.length_append, List.length_drop, List.length_take, maxLen] at *); omega) (fun _ _ _ _ => trivial) rfl (fun _ _ _ => ?_))))
              all_goals first
                | (exfalso; omega)
                | (refine fnQ_tmp2 (.inl rfl) rfl (by conv => lhs; whnf) (by conv => lhs; whnf) fun w'' hS' => ⟨_, _, rfl, ⟨_, congrArg (fun z => Value.tuple #[_, .int .i64 z]) hcode.symm, .inr ?_⟩, hS'.sub (List.sublist_append_left _ _)⟩
                   rw [pledge26, if_pos hcode]; assumption)
            · rw [if_pos hless] at hcode
              repeat' (first
                | refine JE.pure rfl rfl (by conv => lhs; whnf) rfl ?_
                | refine JE.skip rfl rfl ?_
                | (refine JE.kBin ?_; (refine JE.int rfl rfl rfl rfl rfl rfl ?_; with_reducible refine JE.waysD (fun _ => ?_) (fun _ => ?_)))
                | (refine JE.kBuiltin ?_; refine JE.lenSl rfl rfl rfl ?_)
                | with_reducible refine JE.sN ?_
                | with_reducible refine J.seq ?_
                | with_reducible refine J.region ?_
                | refine J.condT rfl ?_
                | refine J.condF rfl ?_
                | with_reducible refine J.skip ?_
                | with_reducible refine J.exit ?_
                | with_reducible refine J.block ?_
                | with_reducible refine J.ret ?_
                | with_reducible refine JX.thenN ?_
                | with_reducible refine JX.thenR ?_
                | with_reducible refine JX.thenE ?_
                | with_reducible refine JX.blkS ?_)
              all_goals first
                | (exfalso; omega)
                | (refine fnQ_tmp2 (.inl rfl) rfl (by conv => lhs; whnf) (by conv => lhs; whnf) fun w'' hS' => ⟨_, [], rfl, ⟨_, ?_, .inl ⟨rfl, ?_, rfl⟩⟩, hS'.sub (List.nil_sublist _)⟩
                   · rw [hcode]
                   · rw [pledge26, if_neg (by rw [hcode]; decide)])

end Go.Proofs.Ytnapfiheholhiaa
