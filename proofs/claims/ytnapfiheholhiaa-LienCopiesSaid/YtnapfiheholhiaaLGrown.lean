/-
  Deeds in a row, at both; the guards. Conditions: none.
-/
import Derived.Test.YtnapfiheholhiaaLDone
import Derived.Laws.Pointers
set_option linter.unusedVariables false
set_option linter.unusedSimpArgs false
namespace Go.Proofs.YtnapfiheholhiaaSym
open Go Go.RowKit
theorem JE.isArg0 {P : Program} {n : Nat} {ops : Array Oper} {pl : Plan} {S : World → Prop} {E : List Entry} {Q : Post} {f : Fr} {i : Nat} {b : Bool} {dst : Option Tmp} {T : TypeId} {pos : String} {af : Array Edge} {g : Option (Nat × Bool)} (t : Tmp) {x : Operand} {ce : Callee} {ts : Array TypeId}
    (h : JE P n ops pl S ((i, ⟨dst, .call { callee := ce, args := #[.tmp t, x], argTypes := ts }, T, pos, af, g⟩, b) :: E) Q f) : JE P n ops pl S ((i, ⟨dst, .call { callee := ce, args := #[.tmp t, x], argTypes := ts }, T, pos, af, g⟩, b) :: E) Q f := h
/-- A type of pointers. -/
class PtrT (P : Program) (t : TypeId) : Prop where
  und : P.underlying t = some (.pointer (P.pointee t))
section
variable {P : Program} {n : Nat} {ops : Array Oper} {pl : Plan} {S : World → Prop} {E : List Entry} {Q : Post} {f : Fr} {i : Nat} {b : Bool}
variable {dst : Option Tmp} {T : TypeId} {pos : String} {af : Array Edge} {g : Option (Nat × Bool)}
theorem JE.nePtr {t t' : TypeId} {x y : Operand} {a : Addr} [ht : PtrT P t] (hw : wantF ops f ⟨dst, .binOp .neq t x y t', T, pos, af, g⟩ = true) (hx : ev f x = .pointer (some a)) (hy : ev f y = .pointer none)
    (hd : dstOk n dst = true) (h : JE P n ops pl S E Q (updO f dst (.bool true))) : JE P n ops pl S ((i, ⟨dst, .binOp .neq t x y t', T, pos, af, g⟩, b) :: E) Q f :=
  .val hw (fun w => by
    have h2 : (Op.equal t (.pointer (some a)) (.pointer none)).run P w = .ok false w := run_equalIn_pointer_nil (P := P) w 9999 t (some a) ht.und
    simp [execOp, hx, hy, eqGuard, binOp, h2]) hd h
theorem JE.eqPtr {t t' : TypeId} {x y : Operand} {a : Addr} [ht : PtrT P t] (hw : wantF ops f ⟨dst, .binOp .eql t x y t', T, pos, af, g⟩ = true) (hx : ev f x = .pointer (some a)) (hy : ev f y = .pointer none)
    (hd : dstOk n dst = true) (h : JE P n ops pl S E Q (updO f dst (.bool false))) : JE P n ops pl S ((i, ⟨dst, .binOp .eql t x y t', T, pos, af, g⟩, b) :: E) Q f :=
  .val hw (fun w => by
    have h2 : (Op.equal t (.pointer (some a)) (.pointer none)).run P w = .ok false w := run_equalIn_pointer_nil (P := P) w 9999 t (some a) ht.und
    simp [execOp, hx, hy, eqGuard, binOp, h2]) hd h
end
end Go.Proofs.YtnapfiheholhiaaSym

namespace Go.Proofs.Ytnapfiheholhiaa
open Go Go.RowKit Go.Proofs.YtnapfiheholhiaaSym

instance : PtrT Try.prog 25 := ⟨by kernel_rfl⟩

/-! ### heavy -/
def long (d : Deed) : Bool := decide (100 < d.p.thing.size) || (decide (100 < d.p.debtor.size) || decide (100 < d.p.creditor.size))
def heavyB (ds : List Deed) (most : Nat) : Bool := decide (most < ds.length) || ds.any long

set_option maxHeartbeats 1000000 in
theorem heavy_calls (v : Value) (ds : List Deed) (most : Nat) (w : World) (hs : Sl 8 encDeed w v ds) (hx : ds.length ≤ 9223372036854775807) :
    Does Try.prog 11 [v, .int .i64 most] w (Ret w (.bool (heavyB ds most))) := by
  obtain ⟨a, c, rfl, hs⟩ := hs
  refine calls_J (ys := [.slice a ds.length c, .int .i64 most]) Try.func11 rfl Try.ntmps11 rfl ?_
  refine J.at_ (S := St w [] []) ?_ (St.start w)
  by_cases hl : most < ds.length
  · skip
    repeat' (first
      | refine JE.pure rfl rfl (by conv => lhs; whnf) rfl ?_
      | (refine JE.kBin ?_; (refine JE.int rfl rfl rfl rfl rfl rfl ?_; with_reducible refine JE.waysD (fun _ => ?_) (fun _ => ?_)))
      | (refine JE.kBuiltin ?_; refine JE.lenSl rfl rfl rfl ?_)
      | with_reducible refine JE.sN ?_
      | with_reducible refine J.seq ?_
      | with_reducible refine J.region ?_
      | refine J.condT rfl ?_
      | refine J.condF rfl ?_
      | with_reducible refine J.skip ?_
      | with_reducible refine J.block ?_
      | with_reducible refine J.ret ?_
      | with_reducible refine JX.thenN ?_
      | with_reducible refine JX.thenR ?_)
    all_goals first
      | (exfalso; omega)
      | (refine fnQ_tmp (.inl rfl) rfl (by conv => lhs; whnf) fun w'' hS' => ⟨?_, hS'.below⟩
         rw [heavyB, decide_eq_true hl]; rfl)
  · skip
    repeat' (first
      | refine JE.pure rfl rfl (by conv => lhs; whnf) rfl ?_
      | (refine JE.kBin ?_; (refine JE.int rfl rfl rfl rfl rfl rfl ?_; with_reducible refine JE.waysD (fun _ => ?_) (fun _ => ?_)))
      | (refine JE.kBuiltin ?_; refine JE.lenSl rfl rfl rfl ?_)
      | with_reducible refine JE.sN ?_
      | with_reducible refine J.seq ?_
      | with_reducible refine J.region ?_
      | refine J.condT rfl ?_
      | refine J.condF rfl ?_
      | with_reducible refine J.skip ?_
      | with_reducible refine J.block ?_
      | with_reducible refine J.ret ?_
      | with_reducible refine JX.thenN ?_
      | with_reducible refine JX.thenR ?_)
    · exfalso; omega
    refine J.loop (fun f w' => ∃ k : Nat, k ≤ ds.length ∧ (∀ (j : Nat) y, j < k → ds[j]? = some y → long y = false) ∧ Has f [(0, .slice a ds.length c), (5, .int .i64 k)] ∧ St w [] [] w')
      (fun f _ => ds.length - (intOf (f 5)).toNat) (fun w' hS => ⟨0, Nat.zero_le _, fun _ _ h => absurd h (Nat.not_lt_zero _), (by repeat' (first | exact trivial | refine And.intro (by rfl) ?_)), hS⟩) ?_
    rintro f w' ⟨k, hk, hbef, hf, hS⟩
    obtain ⟨g, rfl⟩ := hf.eq
    clear hf
    refine J.at_ ?_ hS
    by_cases hlt : k < ds.length
    · obtain ⟨B, off, rfl, hr⟩ := hs (by rintro rfl; simp at hlt)
      have hxk : ds[k]? = some ds[k] := List.getElem?_eq_getElem hlt
      generalize ds[k] = d at hxk
      have hbad : long d = true → heavyB ds most = true := fun h => by
        rw [heavyB, List.any_eq_true.2 ⟨d, List.mem_of_getElem? hxk, h⟩]; simp
      repeat' (first
        | refine JE.pure rfl rfl (by conv => lhs; whnf) rfl ?_
        | refine JE.skip rfl rfl ?_
        | (refine JE.kBin ?_; (refine JE.int rfl rfl rfl rfl rfl rfl ?_; with_reducible refine JE.waysD (fun _ => ?_) (fun _ => ?_)))
        | (refine JE.kBin ?_; refine JE.int rfl rfl rfl rfl (by rw [i64_id (by omega)]) rfl ?_)
        | (refine JE.kField ?_; refine JE.fieldAddr rfl rfl rfl ?_)
        | (refine JE.kBuiltin ?_; refine JE.lenSl rfl rfl rfl ?_)
        | (refine JE.kBuiltin ?_; refine JE.lenStr rfl rfl rfl ?_)
        | with_reducible refine JE.sN ?_
        | with_reducible refine JE.sX ?_
        | with_reducible refine J.seq ?_
        | with_reducible refine J.region ?_
        | refine J.condT rfl ?_
        | refine J.condF rfl ?_
        | with_reducible refine J.skip ?_
        | with_reducible refine J.exit ?_
        | with_reducible refine J.block ?_
        | with_reducible refine J.ret ?_
        | with_reducible refine JX.thenN ?_
        | with_reducible refine JX.thenR ?_
        | with_reducible refine JX.thenE ?_
        | with_reducible refine JX.blkS ?_
        | with_reducible refine JX.blkN ?_
        | with_reducible refine JX.blkR ?_
        | (refine JE.kIndexAddr ?_; refine JE.indexAddr rfl rfl rfl (Int.natCast_nonneg _) (by omega) rfl ?_)
        | (refine JE.isLoadT 20 ?_; refine JE.loadRowC (o := 1) rfl rfl hr (by simp) hxk rfl rfl (fun h => by first | exact trivial | cases h) rfl ?_)
        | (refine JE.isLoadT 29 ?_; refine JE.loadRowC (o := 2) rfl rfl hr (by simp) hxk rfl rfl (fun h => by first | exact trivial | cases h) rfl ?_)
        | (refine JE.isLoadT 39 ?_; refine JE.loadRowC (o := 3) rfl rfl hr (by simp) hxk rfl rfl (fun h => by first | exact trivial | cases h) rfl ?_))
      all_goals first
        | (exfalso; omega)
        | (refine fnQ_tmp (.inl rfl) rfl (by conv => lhs; whnf) fun w'' hS' => ⟨?_, hS'.below⟩
           rw [hbad (by simp only [long, Bool.or_eq_true, decide_eq_true_eq]; omega)])
        | (refine JX.round fun w'' hS' => ⟨⟨k + 1, hlt, fun j y hj hy => ?_, (by repeat' (first | exact trivial | refine And.intro (by rfl) ?_)), hS'⟩, ?_⟩
           · rcases Nat.lt_or_ge j k with h | h
             · exact hbef j y h hy
             · have : j = k := by omega
               subst this
               rw [hxk] at hy; cases hy
               simp only [long, Bool.or_eq_false_iff, decide_eq_false_iff_not]
               omega
           · show ds.length - ((k : Int) + 1).toNat < ds.length - ((k : Int)).toNat
             omega)
    · skip
      repeat' (first
        | refine JE.pure rfl rfl (by conv => lhs; whnf) rfl ?_
        | (refine JE.kBin ?_; (refine JE.int rfl rfl rfl rfl rfl rfl ?_; with_reducible refine JE.waysD (fun _ => ?_) (fun _ => ?_)))
        | (refine JE.kBuiltin ?_; refine JE.lenSl rfl rfl rfl ?_)
        | with_reducible refine JE.sN ?_
        | with_reducible refine J.seq ?_
        | with_reducible refine J.region ?_
        | refine J.condT rfl ?_
        | refine J.condF rfl ?_
        | with_reducible refine J.skip ?_
        | with_reducible refine J.exit ?_
        | with_reducible refine J.block ?_
        | with_reducible refine J.ret ?_
        | with_reducible refine JX.thenN ?_
        | with_reducible refine JX.thenE ?_
        | with_reducible refine JX.blkS ?_)
      all_goals first
        | (exfalso; omega)
        | (refine fnQ_tmp (.inl rfl) rfl (by conv => lhs; whnf) fun w'' hS' => ⟨?_, hS'.below⟩
           have : ds.any long = false := by
             rw [List.any_eq_false]
             intro d hd
             obtain ⟨j, hj, rfl⟩ := List.mem_iff_getElem.1 hd
             simp [hbef j _ (by omega) (List.getElem?_eq_getElem hj)]
           rw [heavyB, this, decide_eq_false hl]; rfl)
theorem light_of {ds : List Deed} {most : Nat} (h : heavyB ds most = false) : ds.length ≤ most ∧ ∀ d ∈ ds, Fits d.p := by
  simp only [heavyB, Bool.or_eq_false_iff, decide_eq_false_iff_not, List.any_eq_false] at h
  refine ⟨by omega, fun d hd => ?_⟩
  have := h.2 d hd
  simp only [long, Bool.or_eq_true, decide_eq_true_eq] at this
  exact ⟨by omega, by omega, by omega⟩

/-! ### grown -/
def grownDoc (ds : List Deed) : List Pledge := ds.foldl docDeed []
theorem deed_length (m : List Pledge) (d : Deed) : (docDeed m d).length ≤ m.length + 1 := by
  unfold docDeed
  split
  · unfold pledge26; split <;> simp
  · split
    · exact Nat.le_trans (List.length_filter_le _ _) (by omega)
    · split
      · unfold payAns
        split
        · simp
        · split
          · simp
          · exact Nat.le_trans (List.length_filterMap_le _ _) (by omega)
      · omega
theorem fold_length : ∀ (ds : List Deed) (m : List Pledge), (ds.foldl docDeed m).length ≤ m.length + ds.length
  | [], m => by simp
  | d :: r, m => by
    have h1 := fold_length r (docDeed m d)
    have h2 := deed_length m d
    simp only [List.foldl_cons, List.length_cons]; omega
theorem grown_length (ds : List Deed) : (grownDoc ds).length ≤ ds.length := by have := fold_length ds []; simpa [grownDoc] using this
theorem fold_doc : ∀ (ds : List Deed) (m : List Pledge), Doc m → Doc (ds.foldl docDeed m)
  | [], _, h => h
  | d :: r, m, h => fold_doc r _ (h.deed d)
theorem grown_doc (ds : List Deed) : Doc (grownDoc ds) := fold_doc ds [] Doc.nil

theorem fold_snoc {m : List Pledge} {ds : List Deed} {k : Nat} {d : Deed} (hx : ds[k]? = some d) : (ds.take (k + 1)).foldl docDeed m = docDeed ((ds.take k).foldl docDeed m) d := by
  rw [List.take_add_one, hx, List.foldl_append]; rfl

set_option maxHeartbeats 2000000 in
theorem grown_calls (v : Value) (ds : List Deed) (w : World) (hs : Sl 8 encDeed w v ds) (hfit : ∀ d ∈ ds, Fits d.p) (hlen : ds.length ≤ sortMost) :
    Does Try.prog 12 [v] w (RetN w fun u l' => ∃ p vm l1 l2, u = .tuple #[.pointer (some ⟨p, 0, none⟩), vm, .bool true] ∧ l' = l1 ++ l2 ∧ Lien p (grownDoc ds) l1 ∧ Own 6 encPledge 37 vm (grownDoc ds) l2) := by
  have hsm : sortMost ≤ 4096 := by decide
  obtain ⟨a, c, rfl, hs⟩ := hs
  refine calls_J (ys := [.slice a ds.length c]) Try.func12 rfl Try.ntmps12 rfl ?_
  refine J.at_ (S := St w [] []) ?_ (St.start w)
  repeat' (first
    | refine JE.pure rfl rfl (by conv => lhs; whnf) rfl ?_
    | with_reducible refine JE.sN ?_
    | with_reducible refine J.seq ?_
    | with_reducible refine J.region ?_
    | with_reducible refine J.block ?_
    | (refine JE.isF 23 ?_; refine JE.call rfl rfl (by repeat (first | exact NfL.nil rfl | apply NfL.cons (by exact rfl) (by conv => lhs; whnf))) rfl ?_; refine CallG.news (G := _) (fun w hS => new_calls w) ?_; rintro _ l0 ⟨p, rfl, hL0⟩)
    | (refine JE.kBuildSlice ?_; refine JE.buildSlice0 rfl rfl (fun B0 _ => ?_)))
  refine J.loop (fun f w' => ∃ (k : Nat) (vm : Value) (l lm : List (Nat × Obj)), k ≤ ds.length ∧ Lien p ((ds.take k).foldl docDeed []) l ∧ Own 6 encPledge 37 vm ((ds.take k).foldl docDeed []) lm ∧
      Has f [(0, .slice a ds.length c), (5, .pointer (some ⟨p, 0, none⟩)), (6, vm), (7, .int .i64 k)] ∧ St w [] (l ++ lm) w')
    (fun f _ => ds.length - (intOf (f 7)).toNat) (fun w' hS => ⟨0, _, l0, [(B0, .cells #[] 37 (0, 0))], Nat.zero_le _, hL0, Own.empty, (by repeat' (first | exact trivial | refine And.intro (by rfl) ?_)), (hS.perm (l' := l0 ++ [(B0, .cells #[] 37 (0, 0))]) (by simpa using (List.perm_append_singleton _ _).symm))⟩) ?_
  rintro f w' ⟨k, vm, l, lm, hk, hL, hm, hf, hS⟩
  obtain ⟨g, rfl⟩ := hf.eq
  clear hf
  refine J.at_ ?_ hS
  by_cases hlt : k < ds.length
  · obtain ⟨B, off, rfl, hr⟩ := hs (by rintro rfl; simp at hlt)
    have hxk : ds[k]? = some ds[k] := List.getElem?_eq_getElem hlt
    have hfd := hfit _ (List.getElem_mem hlt)
    generalize ds[k] = d at hxk hfd
    have hnext := fold_snoc (m := []) hxk
    have hmost : (rowOf ((ds.take k).foldl docDeed []) d.p.thing).length ≤ sortMost := by
      have h1 := fold_length (ds.take k) []
      have h2 := rowOf_length ((ds.take k).foldl docDeed []) d.p.thing
      have h3 : (ds.take k).length ≤ ds.length := by simp; omega
      simp only [List.length_nil] at h1
      omega
    repeat' (first
      | refine JE.pure rfl rfl (by conv => lhs; whnf) rfl ?_
      | (refine JE.kBin ?_; (refine JE.int rfl rfl rfl rfl rfl rfl ?_; with_reducible refine JE.waysD (fun _ => ?_) (fun _ => ?_)))
      | (refine JE.kBin ?_; refine JE.int rfl rfl rfl rfl (by rw [i64_id (by omega)]) rfl ?_)
      | (refine JE.kBuiltin ?_; refine JE.lenSl rfl rfl rfl ?_)
      | with_reducible refine JE.sN ?_
      | with_reducible refine JE.sX ?_
      | with_reducible refine J.seq ?_
      | with_reducible refine J.region ?_
      | refine J.condT rfl ?_
      | refine J.condF rfl ?_
      | with_reducible refine J.skip ?_
      | with_reducible refine J.exit ?_
      | with_reducible refine J.block ?_
      | with_reducible refine JX.thenN ?_
      | with_reducible refine JX.thenE ?_
      | with_reducible refine JX.blkS ?_
      | with_reducible refine JX.blkN ?_
      | (refine JE.kIndexAddr ?_; refine JE.indexAddr rfl rfl rfl (Int.natCast_nonneg _) (by omega) rfl ?_)
      | (refine JE.kLoad ?_; refine JE.loadRow rfl rfl hr (by simp) hxk rfl rfl (fun h => by first | exact trivial | cases h) rfl ?_)
      | (refine JE.isF 22 ?_; refine JE.call rfl rfl (by repeat (first | exact NfL.nil rfl | apply NfL.cons (by exact rfl) (by conv => lhs; whnf))) rfl ?_; refine CallG.obj (ln := l ++ lm) (G := _) .all (fun w hS => done_calls hL hm d hfd hmost w hS.own hS.nodup) (fun _ _ _ _ => trivial) ?_; rintro _ _ ⟨vm2, l1, l2, rfl, rfl, hL2, hm2⟩))
    all_goals first
      | (exfalso; omega)
      | (refine JX.round fun w'' hS' => ⟨⟨k + 1, vm2, l1, l2, hlt, by rw [hnext]; exact hL2, by rw [hnext]; exact hm2, (by repeat' (first | exact trivial | refine And.intro (by rfl) ?_)), by simpa using hS'⟩, ?_⟩
         show ds.length - ((k : Int) + 1).toNat < ds.length - ((k : Int)).toNat
         omega)
  · have hk' : k = ds.length := by omega
    rw [hk', List.take_length] at hL hm
    repeat' (first
      | (refine JE.kBin ?_; refine JE.nePtr rfl rfl rfl rfl ?_)
      | refine JE.pure rfl rfl (by conv => lhs; whnf) rfl ?_
      | (refine JE.kBin ?_; (refine JE.int rfl rfl rfl rfl rfl rfl ?_; with_reducible refine JE.waysD (fun _ => ?_) (fun _ => ?_)))
      | (refine JE.kBuiltin ?_; refine JE.lenSl rfl rfl rfl ?_)
      | with_reducible refine JE.sN ?_
      | with_reducible refine J.seq ?_
      | with_reducible refine J.region ?_
      | refine J.condT rfl ?_
      | refine J.condF rfl ?_
      | with_reducible refine J.skip ?_
      | with_reducible refine J.exit ?_
      | with_reducible refine J.block ?_
      | with_reducible refine J.ret ?_
      | with_reducible refine JX.thenN ?_
      | with_reducible refine JX.thenE ?_
      | with_reducible refine JX.blkS ?_)
    all_goals first
      | (exfalso; omega)
      | exact fnQ_tmp3 (.inl rfl) rfl (by conv => lhs; whnf) (by conv => lhs; whnf) (by conv => lhs; whnf) fun w'' hS' => ⟨_, _, rfl, ⟨p, vm, l, lm, rfl, rfl, hL, hm⟩, hS'⟩

end Go.Proofs.Ytnapfiheholhiaa
