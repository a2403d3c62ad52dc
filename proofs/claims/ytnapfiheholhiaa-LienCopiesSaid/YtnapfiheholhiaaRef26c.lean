/-
  The walks of the document's own code of layer 26: what is compared, what is paid. Conditions: none.
-/
import Derived.Test.YtnapfiheholhiaaRef26b
set_option linter.unusedVariables false
set_option linter.unusedSimpArgs false
namespace Go.Proofs.Ytnapfiheholhiaa
open Go Go.RowKit Go.Proofs.YtnapfiheholhiaaSym

def vPledge (x : Pledge) : Value := .agg (encPledge x).toArray
def vEntry (x : Entry) : Value := .agg (encEntry x).toArray

theorem eq_pledge (d : Nat) (x y : Pledge) (w : World) : (Op.equalIn (d + 8) 37 (vPledge x) (vPledge y)).run Try.prog w = .ok (decide (x = y)) w := by
  obtain ⟨a, b, c, e, g, h⟩ := x
  obtain ⟨a', b', c', e', g', h'⟩ := y
  unfold vPledge
  rw [run_equalIn_struct w (d + 7) _ _ _ (by kernel_rfl) (by kernel_rfl)]
  simp [Program.fieldsOf, Try.underlying37, Op.eqFields, part, Try.isAgg3, Try.isAgg2, Try.isAgg9, Try.isAgg4, encPledge, run_equalIn_int w _ _ _ _ _ _ Try.underlying3, run_equalIn_int w _ _ _ _ _ _ Try.underlying2, run_equalIn_string w _ _ _ _ Try.underlying9, run_equalIn_bool' w _ _ _ _ Try.underlying4, beq_toListBytes, bytes_eq]
  by_cases h1 : a = a' <;> by_cases h2 : b = b' <;> by_cases h3 : c = c' <;> by_cases h4 : e = e' <;> by_cases h5 : g = g' <;> by_cases h6 : h = h' <;> simp [h1, h2, h3, h4, h5, h6]
instance : EqT Try.prog 37 vPledge := ⟨eq_pledge, by kernel_rfl, fun _ => ⟨_, rfl⟩⟩

theorem eq_entry (d : Nat) (x y : Entry) (w : World) : (Op.equalIn (d + 8) 35 (vEntry x) (vEntry y)).run Try.prog w = .ok (decide (x = y)) w := by
  obtain ⟨a, b, c⟩ := x
  obtain ⟨a', b', c'⟩ := y
  unfold vEntry
  rw [run_equalIn_struct w (d + 7) _ _ _ (by kernel_rfl) (by kernel_rfl)]
  simp [Program.fieldsOf, Try.underlying35, Op.eqFields, part, Try.isAgg2, Try.isAgg9, encEntry, run_equalIn_int w _ _ _ _ _ _ Try.underlying2, run_equalIn_string w _ _ _ _ Try.underlying9, beq_toListBytes, bytes_eq]
  by_cases h1 : a = a' <;> by_cases h2 : b = b' <;> by_cases h3 : c = c' <;> simp [h1, h2, h3]
instance : EqT Try.prog 35 vEntry := ⟨eq_entry, by kernel_rfl, fun _ => ⟨_, rfl⟩⟩

set_option maxHeartbeats 1000000 in
theorem same_calls (va vb : Value) (xs ys : List Pledge) (w : World) (hsa : Sl 6 encPledge w va xs) (hsb : Sl 6 encPledge w vb ys) (hx : xs.length ≤ 9223372036854775807) :
    Does Try.prog 15 [va, vb] w (Ret w (.bool (decide (xs = ys)))) := by
  obtain ⟨a, ca, rfl, hsa⟩ := hsa
  obtain ⟨b, cb, rfl, hsb⟩ := hsb
  refine calls_J (ys := [.slice a xs.length ca, .slice b ys.length cb]) Try.func15 rfl Try.ntmps15 rfl ?_
  refine J.at_ (S := St w [] []) ?_ (St.start w)
  by_cases hl : xs.length = ys.length
  · rw [← hl]
    repeat' (first
      | refine JE.pure rfl rfl (by conv => lhs; whnf) rfl ?_
      | (refine JE.kBin ?_; (refine JE.int rfl rfl rfl rfl rfl rfl ?_; with_reducible refine JE.waysD (fun _ => ?_) (fun _ => ?_)))
      | (refine JE.kBuiltin ?_; refine JE.lenSl rfl rfl rfl ?_)
      | with_reducible refine JE.sN ?_
      | with_reducible refine J.seq ?_
      | with_reducible refine J.region ?_
      | refine J.condT rfl ?_
      | refine J.condF rfl ?_
      | with_reducible refine J.skip ?_
      | with_reducible refine J.block ?_
      | with_reducible refine J.ret ?_
      | with_reducible refine JX.thenN ?_
      | with_reducible refine JX.thenR ?_)
    · exact absurd rfl ‹_›
    refine J.loop (fun f w' => ∃ k : Nat, k ≤ xs.length ∧ (∀ j, j < k → xs[j]? = ys[j]?) ∧ Has f [(0, .slice a xs.length ca), (1, .slice b xs.length cb), (5, .int .i64 k)] ∧ St w [] [] w')
      (fun f _ => xs.length - (intOf (f 5)).toNat) (fun w' hS => ⟨0, Nat.zero_le _, fun _ h => absurd h (Nat.not_lt_zero _), (by repeat' (first | exact trivial | refine And.intro (by rfl) ?_)), hS⟩) ?_
    rintro f w' ⟨k, hk, hbef, hf, hS⟩
    obtain ⟨g, rfl⟩ := hf.eq
    clear hf
    refine J.at_ ?_ hS
    by_cases hlt : k < xs.length
    · obtain ⟨B, off, rfl, hr⟩ := hsa (by rintro rfl; simp at hlt)
      obtain ⟨B', off', rfl, hr'⟩ := hsb (by rintro rfl; simp at hl; simp [hl] at hlt)
      have hxk : xs[k]? = some xs[k] := List.getElem?_eq_getElem hlt
      have hyk : ys[k]? = some ys[k] := List.getElem?_eq_getElem (by omega)
      generalize xs[k] = x at hxk
      generalize ys[k] = y at hyk
      repeat' (first
        | refine JE.pure rfl rfl (by conv => lhs; whnf) rfl ?_
        | (refine JE.kBin ?_; (refine JE.int rfl rfl rfl rfl rfl rfl ?_; with_reducible refine JE.waysD (fun _ => ?_) (fun _ => ?_)))
        | (refine JE.kBin ?_; refine JE.int rfl rfl rfl rfl (by rw [i64_id (by omega)]) rfl ?_)
        | (refine JE.kBuiltin ?_; refine JE.lenSl rfl rfl rfl ?_)
        | with_reducible refine JE.sN ?_
        | with_reducible refine JE.sX ?_
        | with_reducible refine JE.dN ?_
        | with_reducible refine J.seq ?_
        | with_reducible refine J.region ?_
        | refine J.condT rfl ?_
        | refine J.condF rfl ?_
        | with_reducible refine J.skip ?_
        | with_reducible refine J.exit ?_
        | with_reducible refine J.block ?_
        | with_reducible refine J.ret ?_
        | with_reducible refine JX.thenN ?_
        | with_reducible refine JX.thenR ?_
        | with_reducible refine JX.thenE ?_
        | with_reducible refine JX.blkS ?_
        | with_reducible refine JX.blkN ?_
        | with_reducible refine JX.blkR ?_
        | (refine J.isR 6 ?_; refine J.draw [(0, true), (1, true), (2, true), (3, true), (4, true), (5, true), (6, true), (7, true), (8, true)] [] mixed (by kernel_rfl) (fun _ h => h.drew) ?_)
        | (refine JE.kIndexAddr ?_; refine JE.indexAddr rfl rfl rfl (Int.natCast_nonneg _) (by omega) rfl ?_)
        | (refine JE.isLoadT 19 ?_; refine JE.loadRow rfl rfl hr (by simp) hxk rfl rfl (fun h => by first | exact trivial | cases h) rfl ?_)
        | (refine JE.isLoadT 23 ?_; refine JE.loadRow rfl rfl hr' (by simp) hyk rfl rfl (fun h => by first | exact trivial | cases h) rfl ?_)
        | (refine JE.kBin ?_; refine JE.neStruct (enc := vPledge) (x := x) (y := y) rfl rfl rfl rfl ?_; with_reducible refine JE.waysD (fun _ => ?_) (fun _ => ?_)))
      all_goals first
        | (exfalso; omega)
        | (refine fnQ_tmp (.inl rfl) rfl (by conv => lhs; whnf) fun w'' hS' => ⟨?_, hS'.below⟩
           rw [decide_eq_false]
           rintro rfl
           rw [hxk] at hyk; cases hyk
           exact absurd rfl ‹_›)
        | (refine JX.round fun w'' hS' => ⟨⟨k + 1, hlt, fun j hj => ?_, (by repeat' (first | exact trivial | refine And.intro (by rfl) ?_)), hS'⟩, ?_⟩
           · rcases Nat.lt_or_ge j k with h | h
             · exact hbef j h
             · have : j = k := by omega
               subst this
               rw [hxk, hyk]
               by_cases e : x = y
               · rw [e]
               · exact absurd e ‹_›
           · show xs.length - ((k : Int) + 1).toNat < xs.length - ((k : Int)).toNat
             omega)
    · skip
      repeat' (first
        | refine JE.pure rfl rfl (by conv => lhs; whnf) rfl ?_
        | (refine JE.kBin ?_; (refine JE.int rfl rfl rfl rfl rfl rfl ?_; with_reducible refine JE.waysD (fun _ => ?_) (fun _ => ?_)))
        | (refine JE.kBuiltin ?_; refine JE.lenSl rfl rfl rfl ?_)
        | with_reducible refine JE.sN ?_
        | with_reducible refine J.seq ?_
        | with_reducible refine J.region ?_
        | refine J.condT rfl ?_
        | refine J.condF rfl ?_
        | with_reducible refine J.skip ?_
        | with_reducible refine J.exit ?_
        | with_reducible refine J.block ?_
        | with_reducible refine J.ret ?_
        | with_reducible refine JX.thenN ?_
        | with_reducible refine JX.thenE ?_
        | with_reducible refine JX.blkS ?_)
      all_goals first
        | (exfalso; omega)
        | (refine fnQ_tmp (.inl rfl) rfl (by conv => lhs; whnf) fun w'' hS' => ⟨?_, hS'.below⟩
           rw [decide_eq_true]
           refine List.ext_getElem? fun j => ?_
           rcases Nat.lt_or_ge j k with h | h
           · exact hbef j h
           · rw [List.getElem?_eq_none (by omega), List.getElem?_eq_none (by omega)])
  · skip
    repeat' (first
      | refine JE.pure rfl rfl (by conv => lhs; whnf) rfl ?_
      | (refine JE.kBin ?_; (refine JE.int rfl rfl rfl rfl rfl rfl ?_; with_reducible refine JE.waysD (fun _ => ?_) (fun _ => ?_)))
      | (refine JE.kBuiltin ?_; refine JE.lenSl rfl rfl rfl ?_)
      | with_reducible refine JE.sN ?_
      | with_reducible refine J.seq ?_
      | with_reducible refine J.region ?_
      | refine J.condT rfl ?_
      | refine J.condF rfl ?_
      | with_reducible refine J.skip ?_
      | with_reducible refine J.block ?_
      | with_reducible refine J.ret ?_
      | with_reducible refine JX.thenN ?_
      | with_reducible refine JX.thenR ?_)
    all_goals first
      | (exfalso; omega)
      | (refine fnQ_tmp (.inl rfl) rfl (by conv => lhs; whnf) fun w'' hS' => ⟨?_, hS'.below⟩
         rw [decide_eq_false]
         rintro rfl
         exact hl rfl)

set_option maxHeartbeats 1000000 in
theorem entries_calls (va vb : Value) (xs ys : List Entry) (w : World) (hsa : Sl 3 encEntry w va xs) (hsb : Sl 3 encEntry w vb ys) (hx : xs.length ≤ 9223372036854775807) :
    Does Try.prog 45 [va, vb] w (Ret w (.bool (decide (xs = ys)))) := by
  obtain ⟨a, ca, rfl, hsa⟩ := hsa
  obtain ⟨b, cb, rfl, hsb⟩ := hsb
  refine calls_J (ys := [.slice a xs.length ca, .slice b ys.length cb]) Try.func45 rfl Try.ntmps45 rfl ?_
  refine J.at_ (S := St w [] []) ?_ (St.start w)
  by_cases hl : xs.length = ys.length
  · rw [← hl]
    repeat' (first
      | refine JE.pure rfl rfl (by conv => lhs; whnf) rfl ?_
      | (refine JE.kBin ?_; (refine JE.int rfl rfl rfl rfl rfl rfl ?_; with_reducible refine JE.waysD (fun _ => ?_) (fun _ => ?_)))
      | (refine JE.kBuiltin ?_; refine JE.lenSl rfl rfl rfl ?_)
      | with_reducible refine JE.sN ?_
      | with_reducible refine J.seq ?_
      | with_reducible refine J.region ?_
      | refine J.condT rfl ?_
      | refine J.condF rfl ?_
      | with_reducible refine J.skip ?_
      | with_reducible refine J.block ?_
      | with_reducible refine J.ret ?_
      | with_reducible refine JX.thenN ?_
      | with_reducible refine JX.thenR ?_)
    · exact absurd rfl ‹_›
    refine J.loop (fun f w' => ∃ k : Nat, k ≤ xs.length ∧ (∀ j, j < k → xs[j]? = ys[j]?) ∧ Has f [(0, .slice a xs.length ca), (1, .slice b xs.length cb), (5, .int .i64 k)] ∧ St w [] [] w')
      (fun f _ => xs.length - (intOf (f 5)).toNat) (fun w' hS => ⟨0, Nat.zero_le _, fun _ h => absurd h (Nat.not_lt_zero _), (by repeat' (first | exact trivial | refine And.intro (by rfl) ?_)), hS⟩) ?_
    rintro f w' ⟨k, hk, hbef, hf, hS⟩
    obtain ⟨g, rfl⟩ := hf.eq
    clear hf
    refine J.at_ ?_ hS
    by_cases hlt : k < xs.length
    · obtain ⟨B, off, rfl, hr⟩ := hsa (by rintro rfl; simp at hlt)
      obtain ⟨B', off', rfl, hr'⟩ := hsb (by rintro rfl; simp at hl; simp [hl] at hlt)
      have hxk : xs[k]? = some xs[k] := List.getElem?_eq_getElem hlt
      have hyk : ys[k]? = some ys[k] := List.getElem?_eq_getElem (by omega)
      generalize xs[k] = x at hxk
      generalize ys[k] = y at hyk
      repeat' (first
        | refine JE.pure rfl rfl (by conv => lhs; whnf) rfl ?_
        | (refine JE.kBin ?_; (refine JE.int rfl rfl rfl rfl rfl rfl ?_; with_reducible refine JE.waysD (fun _ => ?_) (fun _ => ?_)))
        | (refine JE.kBin ?_; refine JE.int rfl rfl rfl rfl (by rw [i64_id (by omega)]) rfl ?_)
        | (refine JE.kBuiltin ?_; refine JE.lenSl rfl rfl rfl ?_)
        | with_reducible refine JE.sN ?_
        | with_reducible refine JE.sX ?_
        | with_reducible refine JE.dN ?_
        | with_reducible refine J.seq ?_
        | with_reducible refine J.region ?_
        | refine J.condT rfl ?_
        | refine J.condF rfl ?_
        | with_reducible refine J.skip ?_
        | with_reducible refine J.exit ?_
        | with_reducible refine J.block ?_
        | with_reducible refine J.ret ?_
        | with_reducible refine JX.thenN ?_
        | with_reducible refine JX.thenR ?_
        | with_reducible refine JX.thenE ?_
        | with_reducible refine JX.blkS ?_
        | with_reducible refine JX.blkN ?_
        | with_reducible refine JX.blkR ?_
        | (refine J.isR 6 ?_; refine J.draw [(0, true), (1, true), (2, true), (3, true), (4, true), (5, true), (6, true), (7, true), (8, true)] [] mixed (by kernel_rfl) (fun _ h => h.drew) ?_)
        | (refine JE.kIndexAddr ?_; refine JE.indexAddr rfl rfl rfl (Int.natCast_nonneg _) (by omega) rfl ?_)
        | (refine JE.isLoadT 19 ?_; refine JE.loadRow rfl rfl hr (by simp) hxk rfl rfl (fun h => by first | exact trivial | cases h) rfl ?_)
        | (refine JE.isLoadT 23 ?_; refine JE.loadRow rfl rfl hr' (by simp) hyk rfl rfl (fun h => by first | exact trivial | cases h) rfl ?_)
        | (refine JE.kBin ?_; refine JE.neStruct (enc := vEntry) (x := x) (y := y) rfl rfl rfl rfl ?_; with_reducible refine JE.waysD (fun _ => ?_) (fun _ => ?_)))
      all_goals first
        | (exfalso; omega)
        | (refine fnQ_tmp (.inl rfl) rfl (by conv => lhs; whnf) fun w'' hS' => ⟨?_, hS'.below⟩
           rw [decide_eq_false]
           rintro rfl
           rw [hxk] at hyk; cases hyk
           exact absurd rfl ‹_›)
        | (refine JX.round fun w'' hS' => ⟨⟨k + 1, hlt, fun j hj => ?_, (by repeat' (first | exact trivial | refine And.intro (by rfl) ?_)), hS'⟩, ?_⟩
           · rcases Nat.lt_or_ge j k with h | h
             · exact hbef j h
             · have : j = k := by omega
               subst this
               rw [hxk, hyk]
               by_cases e : x = y
               · rw [e]
               · exact absurd e ‹_›
           · show xs.length - ((k : Int) + 1).toNat < xs.length - ((k : Int)).toNat
             omega)
    · skip
      repeat' (first
        | refine JE.pure rfl rfl (by conv => lhs; whnf) rfl ?_
        | (refine JE.kBin ?_; (refine JE.int rfl rfl rfl rfl rfl rfl ?_; with_reducible refine JE.waysD (fun _ => ?_) (fun _ => ?_)))
        | (refine JE.kBuiltin ?_; refine JE.lenSl rfl rfl rfl ?_)
        | with_reducible refine JE.sN ?_
        | with_reducible refine J.seq ?_
        | with_reducible refine J.region ?_
        | refine J.condT rfl ?_
        | refine J.condF rfl ?_
        | with_reducible refine J.skip ?_
        | with_reducible refine J.exit ?_
        | with_reducible refine J.block ?_
        | with_reducible refine J.ret ?_
        | with_reducible refine JX.thenN ?_
        | with_reducible refine JX.thenE ?_
        | with_reducible refine JX.blkS ?_)
      all_goals first
        | (exfalso; omega)
        | (refine fnQ_tmp (.inl rfl) rfl (by conv => lhs; whnf) fun w'' hS' => ⟨?_, hS'.below⟩
           rw [decide_eq_true]
           refine List.ext_getElem? fun j => ?_
           rcases Nat.lt_or_ge j k with h | h
           · exact hbef j h
           · rw [List.getElem?_eq_none (by omega), List.getElem?_eq_none (by omega)])
  · skip
    repeat' (first
      | refine JE.pure rfl rfl (by conv => lhs; whnf) rfl ?_
      | (refine JE.kBin ?_; (refine JE.int rfl rfl rfl rfl rfl rfl ?_; with_reducible refine JE.waysD (fun _ => ?_) (fun _ => ?_)))
      | (refine JE.kBuiltin ?_; refine JE.lenSl rfl rfl rfl ?_)
      | with_reducible refine JE.sN ?_
      | with_reducible refine J.seq ?_
      | with_reducible refine J.region ?_
      | refine J.condT rfl ?_
      | refine J.condF rfl ?_
      | with_reducible refine J.skip ?_
      | with_reducible refine J.block ?_
      | with_reducible refine J.ret ?_
      | with_reducible refine JX.thenN ?_
      | with_reducible refine JX.thenR ?_)
    all_goals first
      | (exfalso; omega)
      | (refine fnQ_tmp (.inl rfl) rfl (by conv => lhs; whnf) fun w'' hS' => ⟨?_, hS'.below⟩
         rw [decide_eq_false]
         rintro rfl
         exact hl rfl)

end Go.Proofs.Ytnapfiheholhiaa
