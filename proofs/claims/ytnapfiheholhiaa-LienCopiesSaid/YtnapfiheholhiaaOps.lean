/-
  The calculus of this claim, third part: strings, slices, literals. Conditions: none.
-/
import Derived.Test.YtnapfiheholhiaaHeap
import Derived.Laws.Cover3
set_option linter.unusedVariables false
set_option linter.unusedSimpArgs false
namespace Go.Proofs.YtnapfiheholhiaaSym
open Go Go.RowKit

class SliceT (P : Program) (t : TypeId) (e : outParam TypeId) : Prop where
  under : ∀ w, (underlying t).run P w = .ok (.slice e) w
class StrT (P : Program) (t : TypeId) : Prop where
  under : ∀ w, (underlying t).run P w = .ok .string w
class MapT (P : Program) (t : TypeId) (k e : outParam TypeId) : Prop where
  under : ∀ w, (underlying t).run P w = .ok (.map k e) w
class IntT (P : Program) (t : TypeId) (k : outParam IntKind) : Prop where
  under : ∀ w, (underlying t).run P w = .ok (.int k) w
class SizeT (P : Program) (t : TypeId) (k : outParam Nat) : Prop where
  size : ∀ w, (sizeOf t).run P w = .ok k w

/-- What elements there are. -/
class ElemT (P : Program) (t : TypeId) (e : outParam TypeId) (size bytes : outParam Nat) : Prop where
  und : P.underlying t = some (.slice e)
  info : ∃ i z, P.info? e = some i ∧ i.zero = some z ∧ i.size = size ∧ i.bytes = bytes ∧ z.cells.size = size ∧ 0 < size

section
variable {P : Program} {n : Nat} {ops : Array Oper} {pl : Plan} {S : World → Prop} {E : List Entry} {Q : Post} {f : Fr} {i : Nat} {b : Bool}
variable {dst : Option Tmp} {T : TypeId} {pos : String} {af : Array Edge} {g : Option (Nat × Bool)} {W0 : World} {olds : List Nat} {l l' : List (Nat × Obj)}

theorem JE.val {op : Op} {v : Value} (hw : wantF ops f ⟨dst, op, T, pos, af, g⟩ = true) (hv : ∀ w, (execOp (ev f) ⟨dst, op, T, pos, af, g⟩).run P w = .ok (.value v) w) (hd : dstOk n dst = true)
    (h : JE P n ops pl S E Q (updO f dst v)) : JE P n ops pl S ((i, ⟨dst, op, T, pos, af, g⟩, b) :: E) Q f := ⟨fun w hS =>
  .quiet (fun _ => True) (fun _ => pl.triv i) trivial hw (fun w _ => hv w) hd (h.run w hS)⟩

theorem JE.lenSl {x : Operand} {t e : TypeId} {a : Option Addr} {m c : Nat} [ht : SliceT P t e] (hw : wantF ops f ⟨dst, .call { callee := .builtin .len, args := #[x], argTypes := #[t] }, T, pos, af, g⟩ = true)
    (hx : ev f x = .slice a m c) (hd : dstOk n dst = true) (h : JE P n ops pl S E Q (updO f dst (.int .i64 (m : Int)))) :
    JE P n ops pl S ((i, ⟨dst, .call { callee := .builtin .len, args := #[x], argTypes := #[t] }, T, pos, af, g⟩, b) :: E) Q f :=
  .val hw (fun w => by simp [execOp, resolve, invoke, builtin, Builtin.len_, hx, ht.under, goInt]) hd h

theorem JE.nilCheck {x : Operand} {a : Addr} (hw : wantF ops f ⟨dst, .nilCheck x, T, pos, af, g⟩ = true) (hx : ev f x = .pointer (some a)) (hd : dstOk n dst = true) (h : JE P n ops pl S E Q (updO f dst (.pointer (some a)))) :
    JE P n ops pl S ((i, ⟨dst, .nilCheck x, T, pos, af, g⟩, b) :: E) Q f :=
  .val hw (fun w => by simp [execOp, hx]) hd h

/-- Is a slice nil? -/
theorem JE.eqNilSl {t t' e : TypeId} {sz by' : Nat} {x y : Operand} {a : Option Addr} {m c : Nat} [ht : ElemT P t e sz by'] (hw : wantF ops f ⟨dst, .binOp .eql t x y t', T, pos, af, g⟩ = true) (hx : ev f x = .slice a m c) (hy : ev f y = .slice none 0 0)
    (hd : dstOk n dst = true) (h : JE P n ops pl S E Q (updO f dst (.bool a.isNone))) : JE P n ops pl S ((i, ⟨dst, .binOp .eql t x y t', T, pos, af, g⟩, b) :: E) Q f :=
  .val hw (fun w => by
    have h2 := run_equal_slice_nil (P := P) w t e a m c ht.und
    simp [execOp, hx, hy, eqGuard, binOp, h2]) hd h

theorem JE.lenStr {x : Operand} {t : TypeId} {s : ByteArray} [ht : StrT P t] (hw : wantF ops f ⟨dst, .call { callee := .builtin .len, args := #[x], argTypes := #[t] }, T, pos, af, g⟩ = true)
    (hx : ev f x = .string s) (hd : dstOk n dst = true) (h : JE P n ops pl S E Q (updO f dst (.int .i64 (s.size : Int)))) :
    JE P n ops pl S ((i, ⟨dst, .call { callee := .builtin .len, args := #[x], argTypes := #[t] }, T, pos, af, g⟩, b) :: E) Q f :=
  .val hw (fun w => by simp [execOp, resolve, invoke, builtin, Builtin.len_, hx, ht.under, goInt]) hd h

theorem JE.max2 {x y : Operand} {ts : Array TypeId} {k : IntKind} {p q r : Int} (hw : wantF ops f ⟨dst, .call { callee := .builtin .max, args := #[x, y], argTypes := ts }, T, pos, af, g⟩ = true)
    (hx : ev f x = .int k p) (hy : ev f y = .int k q) (hr : (if p < q then q else p) = r) (hd : dstOk n dst = true) (h : JE P n ops pl S E Q (updO f dst (.int k r))) :
    JE P n ops pl S ((i, ⟨dst, .call { callee := .builtin .max, args := #[x, y], argTypes := ts }, T, pos, af, g⟩, b) :: E) Q f :=
  .val hw (fun w => by subst hr; by_cases h : p < q <;> simp [execOp, resolve, invoke, builtin, Builtin.max_, Builtin.max2, hx, hy, h]) hd h

theorem JE.min2 {x y : Operand} {ts : Array TypeId} {k : IntKind} {p q r : Int} (hw : wantF ops f ⟨dst, .call { callee := .builtin .min, args := #[x, y], argTypes := ts }, T, pos, af, g⟩ = true)
    (hx : ev f x = .int k p) (hy : ev f y = .int k q) (hr : (if q < p then q else p) = r) (hd : dstOk n dst = true) (h : JE P n ops pl S E Q (updO f dst (.int k r))) :
    JE P n ops pl S ((i, ⟨dst, .call { callee := .builtin .min, args := #[x, y], argTypes := ts }, T, pos, af, g⟩, b) :: E) Q f :=
  .val hw (fun w => by subst hr; by_cases h : q < p <;> simp [execOp, resolve, invoke, builtin, Builtin.min_, Builtin.min2, hx, hy, h]) hd h

/-- The byte at place j. -/
def byteAt (s : ByteArray) (j : Nat) : UInt8 := s.data.toList.getD j 0

theorem JE.indexStr {x y : Operand} {t : TypeId} {s : ByteArray} {k : IntKind} {j : Int} [ht : StrT P t] (hw : wantF ops f ⟨dst, .index t x y, T, pos, af, g⟩ = true)
    (hx : ev f x = .string s) (hy : ev f y = .int k j) (h0 : 0 ≤ j) (h1 : j < s.size) (hd : dstOk n dst = true) (h : JE P n ops pl S E Q (updO f dst (.int .u8 ((byteAt s j.toNat).toNat : Int)))) :
    JE P n ops pl S ((i, ⟨dst, .index t x y, T, pos, af, g⟩, b) :: E) Q f :=
  .val hw (fun w => by
    have hj : j.toNat < s.size := by omega
    have e : s[j.toNat]? = some (byteAt s j.toNat) := by
      have : s[j.toNat]? = some s[j.toNat] := by simp [hj]
      rw [this]; congr 1
      unfold byteAt
      have hj' : j.toNat < s.data.toList.length := by simpa using hj
      rw [List.getD_eq_getElem?_getD, List.getElem?_eq_getElem hj']
      rfl
    simp [execOp, Instr.index, asIntOf, hx, hy, ht.under, h0, e]) hd h

theorem i64_id {x : Int} (h : -9223372036854775808 ≤ x ∧ x ≤ 9223372036854775807) : IntKind.i64.wrap x = x := by
  rw [IntKind.wrap_i64]; omega

/-! ### Equality -/
class BoolT (P : Program) (t : TypeId) : Prop where
  und : P.underlying t = some .bool
theorem run_eqBool {t : TypeId} [ht : BoolT P t] (x y : Bool) (w : World) : (Op.equal t (.bool x) (.bool y)).run P w = .ok (x == y) w := by
  exact run_equalIn_bool' w 9999 t x y ht.und
theorem JE.eqBool {t t' : TypeId} {a c : Operand} {x y z : Bool} [ht : BoolT P t] (hw : wantF ops f ⟨dst, .binOp .eql t a c t', T, pos, af, g⟩ = true) (ha : ev f a = .bool x) (hc : ev f c = .bool y)
    (hz : (x == y) = z) (hd : dstOk n dst = true) (h : JE P n ops pl S E Q (updO f dst (.bool z))) : JE P n ops pl S ((i, ⟨dst, .binOp .eql t a c t', T, pos, af, g⟩, b) :: E) Q f :=
  .val hw (fun w => by subst hz; simp [execOp, ha, hc, eqGuard, binOp, run_eqBool]) hd h
theorem JE.neBool {t t' : TypeId} {a c : Operand} {x y z : Bool} [ht : BoolT P t] (hw : wantF ops f ⟨dst, .binOp .neq t a c t', T, pos, af, g⟩ = true) (ha : ev f a = .bool x) (hc : ev f c = .bool y)
    (hz : (x != y) = z) (hd : dstOk n dst = true) (h : JE P n ops pl S E Q (updO f dst (.bool z))) : JE P n ops pl S ((i, ⟨dst, .binOp .neq t a c t', T, pos, af, g⟩, b) :: E) Q f :=
  .val hw (fun w => by subst hz; simp [execOp, ha, hc, eqGuard, binOp, run_eqBool, bne]) hd h

theorem bytes_eq (x y : ByteArray) : (x.toList == y.toList) = decide (x = y) := by
  rw [Bool.eq_iff_iff]
  simp only [beq_iff_eq, decide_eq_true_eq, ByteArray.toList_eq]
  exact ⟨fun h => ByteArray.ext (Array.ext' h), fun h => by rw [h]⟩
theorem JE.eqStr {t t' : TypeId} {a c : Operand} {x y : ByteArray} (hw : wantF ops f ⟨dst, .binOp .eql t a c t', T, pos, af, g⟩ = true) (ha : ev f a = .string x) (hc : ev f c = .string y)
    (hd : dstOk n dst = true) (h : JE P n ops pl S E Q (updO f dst (.bool (decide (x = y))))) : JE P n ops pl S ((i, ⟨dst, .binOp .eql t a c t', T, pos, af, g⟩, b) :: E) Q f :=
  .val hw (fun w => by simp [execOp, ha, hc, eqGuard, binOp, Op.stringOp, bytes_eq]) hd h
theorem JE.neStr {t t' : TypeId} {a c : Operand} {x y : ByteArray} (hw : wantF ops f ⟨dst, .binOp .neq t a c t', T, pos, af, g⟩ = true) (ha : ev f a = .string x) (hc : ev f c = .string y)
    (hd : dstOk n dst = true) (h : JE P n ops pl S E Q (updO f dst (.bool (decide (x ≠ y))))) : JE P n ops pl S ((i, ⟨dst, .binOp .neq t a c t', T, pos, af, g⟩, b) :: E) Q f :=
  .val hw (fun w => by simp [execOp, ha, hc, eqGuard, binOp, Op.stringOp, bytes_eq]) hd h

/-! ### A range over a string -/
theorem run_getObj {r : Nat} {o : Obj} {w : World} (h : w.heap[r]? = some o) (hc : ∀ c t fr, o ≠ .cells c t fr) : (getObj r).run P w = .ok o w := by
  cases o <;> first | exact absurd rfl (hc _ _ _) | simp only [getObj, Sem.run, h]
theorem run_setObj {r : Nat} {o o' : Obj} {w : World} (h : w.heap[r]? = some o) (hc : ∀ c t fr, o ≠ .cells c t fr) : (setObj r o').run P w = .ok () (w.turned r o') := by
  cases o <;> first | exact absurd rfl (hc _ _ _) | (simp only [setObj, Sem.run, h]; rfl)

theorem JE.rangeStr {t : TypeId} {x : Operand} {s : ByteArray} [ht : StrT P t] (hw : wantF ops f ⟨dst, .range t x, T, pos, af, g⟩ = true) (hx : ev f x = .string s) (hd : dstOk n dst = true)
    (h : ∀ k, W0.heap.size ≤ k → JE P n ops pl (St W0 olds ((k, .stringIter s 0) :: l)) E Q (updO f dst (.pointer (some ⟨k, 0, none⟩)))) :
    JE P n ops pl (St W0 olds l) ((i, ⟨dst, .range t x, T, pos, af, g⟩, false) :: E) Q f := ⟨fun w hS => by
  refine WE.act (R := fun v w' => v = .pointer (some ⟨w.heap.size, 0, none⟩) ∧ w' = w.alloc (.stringIter s 0)) hw ?_ hd ?_
  · simp [Step, execOp, Instr.range, hx, ht.under]
  · rintro v w' ⟨rfl, rfl⟩
    exact ⟨pl.grow i w _ ((Below.refl _ _).alloc (Nat.le_refl _) _), (h _ hS.size).run _ (hS.alloc _)⟩⟩

theorem JE.nextStr {x : Operand} {s : ByteArray} {k p c wd : Nat} (hw : wantF ops f ⟨dst, .next x true, T, pos, af, g⟩ = true) (hx : ev f x = .pointer (some ⟨k, 0, none⟩)) (hp : p < s.size) (hdec : Utf8.decode s p = (c, wd))
    (hk : Turn l k (.stringIter s p) (.stringIter s (p + wd)) l') (hwr : pl.wr i k) (hd : dstOk n dst = true)
    (h : JE P n ops pl (St W0 olds l') E Q (updO f dst (.tuple #[.bool true, .int .i64 (p : Int), .int .i32 (c : Int)]))) :
    JE P n ops pl (St W0 olds l) ((i, ⟨dst, .next x true, T, pos, af, g⟩, false) :: E) Q f := ⟨fun w hS => by
  have hb := hS.own _ hk.mem
  refine WE.act (R := fun v w' => v = .tuple #[.bool true, .int .i64 (p : Int), .int .i32 (c : Int)] ∧ w' = w.turned k (.stringIter s (p + wd))) hw ?_ hd ?_
  · simp [Step, execOp, Instr.next, hx, run_getObj hb (by simp), hp, hdec, run_setObj hb (by simp), goInt]
  · rintro v w' ⟨rfl, rfl⟩
    exact ⟨pl.put i k w _ hwr fun j hj _ => turned_other w _ hj, h.run _ (hS.turned hk)⟩⟩

theorem JE.endStr {x : Operand} {s : ByteArray} {k p : Nat} (hw : wantF ops f ⟨dst, .next x true, T, pos, af, g⟩ = true) (hx : ev f x = .pointer (some ⟨k, 0, none⟩)) (hp : ¬ p < s.size)
    (hk : In l (k, .stringIter s p)) (hd : dstOk n dst = true) (h : JE P n ops pl (St W0 olds l) E Q (updO f dst (.tuple #[.bool false]))) :
    JE P n ops pl (St W0 olds l) ((i, ⟨dst, .next x true, T, pos, af, g⟩, false) :: E) Q f := ⟨fun w hS => by
  have hb := hS.own _ hk.mem
  refine WE.act (R := fun v w' => v = .tuple #[.bool false] ∧ w' = w) hw ?_ hd ?_
  · simp [Step, execOp, Instr.next, hx, run_getObj hb (by simp), hp]
  · rintro v w' ⟨rfl, rfl⟩
    exact ⟨pl.refl i w', h.run _ hS⟩⟩

/-! ### Slices -/
theorem JE.indexAddr {x y : Operand} {t e : TypeId} {k : IntKind} {j : Int} {m c B off sz : Nat} [ht : SliceT P t e] [hz : SizeT P e sz] (hw : wantF ops f ⟨dst, .indexAddr t x y, T, pos, af, g⟩ = true)
    (hx : ev f x = .slice (some ⟨B, off, none⟩) m c) (hy : ev f y = .int k j) (h0 : 0 ≤ j) (h1 : j < m) (hd : dstOk n dst = true)
    (h : JE P n ops pl S E Q (updO f dst (.pointer (some ⟨B, off + j.toNat * sz, none⟩)))) :
    JE P n ops pl S ((i, ⟨dst, .indexAddr t x y, T, pos, af, g⟩, b) :: E) Q f :=
  .val hw (fun w => by simp [execOp, Instr.indexAt, asIntOf, hx, hy, ht.under, h0, h1, hz.size, add_eq]) hd h

/-- The rows of k cells that lie in block B from off on read as xs. -/
def RowsAt {α : Type} (k : Nat) (enc : α → List Value) (w : World) (B off : Nat) (xs : List α) : Prop :=
  ∃ c T fr, w.heap[B]? = some (.cells c T fr) ∧ ∀ i x, xs[i]? = some x → ∀ j u, (enc x)[j]? = some u → c[off + i * k + j]? = some u
/-- v is a slice whose elements, of k cells each, read as xs. -/
def Sl {α : Type} (k : Nat) (enc : α → List Value) (w : World) (v : Value) (xs : List α) : Prop :=
  ∃ a c, v = .slice a xs.length c ∧ (xs ≠ [] → ∃ B off, a = some ⟨B, off, none⟩ ∧ RowsAt k enc w B off xs)

theorem RowsAt.same {α : Type} {k : Nat} {enc : α → List Value} {w w' : World} {B off : Nat} {xs : List α} (h : RowsAt k enc w B off xs) (hb : w'.heap[B]? = w.heap[B]?) : RowsAt k enc w' B off xs := by
  obtain ⟨c, T, fr, h1, h2⟩ := h; exact ⟨c, T, fr, hb.trans h1, h2⟩
theorem RowsAt.lt {α : Type} {k : Nat} {enc : α → List Value} {w : World} {B off : Nat} {xs : List α} (h : RowsAt k enc w B off xs) : B < w.heap.size := by
  obtain ⟨c, T, fr, h1, _⟩ := h; exact (Array.getElem?_eq_some_iff.1 h1).1
theorem Sl.below {α : Type} {k : Nat} {enc : α → List Value} {w w' : World} {v : Value} {xs : List α} (h : Sl k enc w v xs) (hb : Below w.heap.size w w') : Sl k enc w' v xs := by
  obtain ⟨a, c, rfl, h2⟩ := h
  exact ⟨a, c, rfl, fun hx => let ⟨B, off, e, h3⟩ := h2 hx; ⟨B, off, e, h3.same (hb.block B h3.lt)⟩⟩

theorem flat_get {α : Type} {k : Nat} {enc : α → List Value} (hk : ∀ x, (enc x).length = k) : ∀ (xs : List α) (i j : Nat) (x : α) (u : Value), xs[i]? = some x → (enc x)[j]? = some u → (xs.flatMap enc)[i * k + j]? = some u
  | [], _, _, _, _, h, _ => by simp at h
  | y :: r, 0, j, x, u, h, hu => by
    simp only [List.getElem?_cons_zero, Option.some.injEq] at h
    subst h
    rw [List.flatMap_cons, Nat.zero_mul, Nat.zero_add, List.getElem?_append_left (List.getElem?_eq_some_iff.1 hu).1]
    exact hu
  | y :: r, i + 1, j, x, u, h, hu => by
    rw [List.flatMap_cons, Nat.add_mul, Nat.one_mul, show i * k + k + j = (enc y).length + (i * k + j) by rw [hk]; omega, List.getElem?_append_right (Nat.le_add_right _ _), Nat.add_sub_cancel_left]
    exact flat_get hk r i j x u (by simpa using h) hu
/-- A row that was built. -/
theorem Sl.flat {α : Type} {k : Nat} {enc : α → List Value} (hk : ∀ x, (enc x).length = k) (xs : List α) (w : World) (B T c : Nat) (cs : List Value) (hb : w.heap[B]? = some (cel cs T)) (he : ∃ r, cs = xs.flatMap enc ++ r) : Sl k enc w (.slice (some ⟨B, 0, none⟩) xs.length c) xs :=
  ⟨_, _, rfl, fun _ => ⟨B, 0, rfl, _, _, _, hb, fun i x hx j u hu => by
    obtain ⟨r, rfl⟩ := he
    have := flat_get hk xs i j x u hx hu
    rw [Nat.zero_add, List.getElem?_toArray, List.getElem?_append_left (List.getElem?_eq_some_iff.1 this).1]
    exact this⟩⟩

/-- An element of a row that lay there ahead. -/
theorem JE.loadRow {α : Type} {k : Nat} {enc : α → List Value} {t : TypeId} {y : Operand} {B off j : Nat} {xs : List α} {x : α} {vs : List Value} [hA : AggT P t k] (hw : wantF ops f ⟨dst, .load t y, T, pos, af, g⟩ = true)
    (hy : ev f y = .pointer (some ⟨B, off + j * k, none⟩)) (hr : RowsAt k enc W0 B off xs) (hn : B ∉ olds) (hj : xs[j]? = some x) (he : enc x = vs) (hk : vs.length = k) (hc : b = true → pl.calm i) (hd : dstOk n dst = true)
    (h : JE P n ops pl (St W0 olds l) E Q (updO f dst (.agg vs.toArray))) : JE P n ops pl (St W0 olds l) ((i, ⟨dst, .load t y, T, pos, af, g⟩, b) :: E) Q f := ⟨fun w hS => by
  have hr' := hr
  obtain ⟨c, T', fr, h1, h2⟩ := hr
  refine .quiet (fun w => w.heap[B]? = some (.cells c T' fr)) (fun hb => pl.hush i _ (hc hb) fun w w' hww h => ?_) (hS.old hn h1) hw (fun w hb => ?_) hd (h.run w hS)
  · exact (hww B (Array.getElem?_eq_some_iff.1 h).1).trans h
  · have hl : ∀ j' v, vs[j']? = some v → w.cell? ((⟨B, off + j * k, none⟩ : Addr).add j') = some v := fun j' v hv => by
      rw [add_eq, cell?_block hb]
      exact h2 j x hj j' v (by rw [he]; exact hv)
    have := run_loadCells_list (P := P) w ⟨B, off + j * k, none⟩ vs hl
    rw [hk] at this
    simp [execOp, hy, Instr.loadAt, Instr.sureAddr, loadVar, hA.isAgg, hA.size, this]⟩

/-- Some cells of an element of a row that lay there ahead. -/
theorem JE.loadRowN {α : Type} {k m o : Nat} {enc : α → List Value} {t : TypeId} {y : Operand} {B off j : Nat} {xs : List α} {x : α} {vs : List Value} [hA : AggT P t m] (hw : wantF ops f ⟨dst, .load t y, T, pos, af, g⟩ = true)
    (hy : ev f y = .pointer (some ⟨B, off + j * k + o, none⟩)) (hr : RowsAt k enc W0 B off xs) (hn : B ∉ olds) (hj : xs[j]? = some x) (he : NfL (subL (enc x) o m) vs) (hk : vs.length = m) (hc : b = true → pl.calm i) (hd : dstOk n dst = true)
    (h : JE P n ops pl (St W0 olds l) E Q (updO f dst (.agg vs.toArray))) : JE P n ops pl (St W0 olds l) ((i, ⟨dst, .load t y, T, pos, af, g⟩, b) :: E) Q f := ⟨fun w hS => by
  obtain ⟨c, T', fr, h1, h2⟩ := hr
  refine .quiet (fun w => w.heap[B]? = some (.cells c T' fr)) (fun hb => pl.hush i _ (hc hb) fun w w' hww h => ?_) (hS.old hn h1) hw (fun w hb => ?_) hd (h.run w hS)
  · exact (hww B (Array.getElem?_eq_some_iff.1 h).1).trans h
  · have hl : ∀ j' v, vs[j']? = some v → w.cell? ((⟨B, off + j * k + o, none⟩ : Addr).add j') = some v := fun j' v hv => by
      rw [add_eq, cell?_block hb, show off + j * k + o + j' = off + j * k + (o + j') by omega]
      exact h2 j x hj _ v (subL_get _ _ _ _ _ (by rw [he.eq]; exact hv))
    have := run_loadCells_list (P := P) w ⟨B, off + j * k + o, none⟩ vs hl
    rw [hk] at this
    simp [execOp, hy, Instr.loadAt, Instr.sureAddr, loadVar, hA.isAgg, hA.size, this]⟩

/-- One cell of an element of a row that lay there ahead. -/
theorem JE.loadRowC {α : Type} {k o : Nat} {enc : α → List Value} {t : TypeId} {y : Operand} {B off j : Nat} {xs : List α} {x : α} {u v : Value} [hA : Scal P t] (hw : wantF ops f ⟨dst, .load t y, T, pos, af, g⟩ = true)
    (hy : ev f y = .pointer (some ⟨B, off + j * k + o, none⟩)) (hr : RowsAt k enc W0 B off xs) (hn : B ∉ olds) (hj : xs[j]? = some x) (he : nthV (enc x) o = some u) (hu : u = v) (hc : b = true → pl.calm i) (hd : dstOk n dst = true)
    (h : JE P n ops pl (St W0 olds l) E Q (updO f dst v)) : JE P n ops pl (St W0 olds l) ((i, ⟨dst, .load t y, T, pos, af, g⟩, b) :: E) Q f := ⟨fun w hS => by
  obtain ⟨c, T', fr, h1, h2⟩ := hr
  subst hu
  refine .quiet (fun w => w.heap[B]? = some (.cells c T' fr)) (fun hb => pl.hush i _ (hc hb) fun w w' hww h => ?_) (hS.old hn h1) hw (fun w hb => ?_) hd (h.run w hS)
  · exact (hww B (Array.getElem?_eq_some_iff.1 h).1).trans h
  · have hv : w.cell? ⟨B, off + j * k + o, none⟩ = some u := by
      rw [cell?_block hb]
      exact h2 j x hj o u (by rw [← he, nthV_eq])
    simp [execOp, hy, Instr.loadAt, Instr.sureAddr, loadVar, hA.isAgg, hv]⟩

/-- An element of one cell. -/
theorem JE.loadRow1 {α : Type} {enc : α → List Value} {t : TypeId} {y : Operand} {B off j : Nat} {xs : List α} {x : α} {v : Value} [hA : Scal P t] (hw : wantF ops f ⟨dst, .load t y, T, pos, af, g⟩ = true)
    (hy : ev f y = .pointer (some ⟨B, off + j * 1, none⟩)) (hr : RowsAt 1 enc W0 B off xs) (hn : B ∉ olds) (hj : xs[j]? = some x) (he : enc x = [v]) (hc : b = true → pl.calm i) (hd : dstOk n dst = true)
    (h : JE P n ops pl (St W0 olds l) E Q (updO f dst v)) : JE P n ops pl (St W0 olds l) ((i, ⟨dst, .load t y, T, pos, af, g⟩, b) :: E) Q f := ⟨fun w hS => by
  obtain ⟨c, T', fr, h1, h2⟩ := hr
  refine .quiet (fun w => w.heap[B]? = some (.cells c T' fr)) (fun hb => pl.hush i _ (hc hb) fun w w' hww h => ?_) (hS.old hn h1) hw (fun w hb => ?_) hd (h.run w hS)
  · exact (hww B (Array.getElem?_eq_some_iff.1 h).1).trans h
  · have hv : w.cell? ⟨B, off + j * 1, none⟩ = some v := by
      rw [cell?_block hb]
      simpa using h2 j x hj 0 v (by rw [he]; rfl)
    rw [Nat.mul_one] at hv
    simp [execOp, hy, Instr.loadAt, Instr.sureAddr, loadVar, hA.isAgg, hv]⟩

/-! ### Literals -/
theorem fill_cells (off : Nat) : ∀ (vs : List Value) (s : Nat) (cs : Array Value), ((vs.zipIdx s).toArray.foldl (fun cs (c, j) => cs.setIfInBounds (off + j) c) cs) = (lay cs.toList (off + s) vs).toArray
  | [], s, cs => by simp [lay]
  | v :: r, s, cs => by
    have := fill_cells off r (s + 1) (cs.setIfInBounds (off + s) v)
    simp only [List.zipIdx_cons, List.foldl_toArray', List.foldl_cons, lay, Array.toList_setIfInBounds] at *
    exact this

def fillL (place : Nat → Option (Nat × Nat)) : List Value → List (Nat × Value) → Option (List Value)
  | cs, [] => some cs
  | cs, (j, v) :: r =>
    match place j with
    | none => none
    | some (off, size) => cond (Nat.beq (cellsL v).length size && Nat.ble (off + size) cs.length) (fillL place (lay cs off (cellsL v)) r) none

theorem fill_eq {place : Nat → Option (Nat × Nat)} : ∀ {parts : List (Nat × Value)} {cs cs' : List Value}, fillL place cs parts = some cs' → Instr.fill place cs.toArray parts = some cs'.toArray
  | [], cs, cs', h => by simp only [fillL, Option.some.injEq] at h; subst h; rfl
  | (j, v) :: r, cs, cs', h => by
    simp only [fillL] at h
    unfold Instr.fill
    cases hp : place j with
    | none => rw [hp] at h; cases h
    | some os =>
      obtain ⟨off, size⟩ := os
      rw [hp] at h
      simp only at h ⊢
      cases hc : Nat.beq (cellsL v).length size && Nat.ble (off + size) cs.length with
      | false => rw [hc] at h; cases h
      | true =>
        rw [hc] at h
        simp only [cond_true] at h
        simp only [Bool.and_eq_true] at hc
        have h1 : (cellsL v).length = size := Nat.eq_of_beq_eq_true hc.1
        have h2 : off + size ≤ cs.length := Nat.le_of_ble_eq_true hc.2
        have e := fill_cells off (cellsL v) 0 cs.toArray
        have hz : v.cells.size = size := by rw [cells_eq]; simpa using h1
        rw [if_neg (by simp [hz, h2])]
        have ez : v.cells.zipIdx = ((cellsL v).zipIdx 0).toArray := by rw [cells_eq]; simp
        rw [ez, e]
        exact fill_eq (cs := lay cs off (cellsL v)) h

def evp (f : Fr) : List (Nat × Operand) → List (Nat × Value)
  | [] => []
  | (j, x) :: r => (j, ev f x) :: evp f r
theorem evp_eq : ∀ (ps : List (Nat × Operand)), ps.map (fun (j, x) => (j, ev f x)) = evp f ps
  | [] => rfl
  | (j, x) :: r => by simp only [List.map_cons, evp, evp_eq r]

class BuildT (P : Program) (t : TypeId) (z : outParam (List Value)) (ps : outParam (List (Nat × Nat))) : Prop where
  run : ∀ parts cs, fillL (ps[·]?) z parts = some cs → ∀ w, (Instr.build t parts.toArray).run P w = .ok (.agg cs.toArray) w

theorem BuildT.of {t : TypeId} {fs : Array Field} {z : List Value} {ps : List (Nat × Nat)} (hu : ∀ w, (underlying t).run P w = .ok (.struct fs) w) (hz : ∀ w, (zeroValue t).run P w = .ok (.agg z.toArray) w)
    (hp : ∀ w, (fs.mapM fun fl => (do pure (fl.offset, ← sizeOf fl.type) : Sem (Nat × Nat))).run P w = .ok ps.toArray w) : BuildT P t z ps :=
  ⟨fun parts cs h w => by
    have e := fill_eq h
    simp only [Instr.build, Sem.run_bind, hz, hu, hp, Result.andThen_ok, Value.cells]
    have : (fun x : Nat => ps.toArray[x]?) = (fun x : Nat => ps[x]?) := by funext x; simp
    simp only [this, e, Sem.run_pure]⟩

theorem JE.build {t : TypeId} {parts : List (Nat × Operand)} {z cs0 cs : List Value} {ps : List (Nat × Nat)} [hB : BuildT P t z ps] (hw : wantF ops f ⟨dst, .build t parts.toArray, T, pos, af, g⟩ = true)
    (hc0 : fillL (ps[·]?) z (evp f parts) = some cs0) (hnf : NfL cs0 cs) (hd : dstOk n dst = true) (h : JE P n ops pl S E Q (updO f dst (.agg cs.toArray))) :
    JE P n ops pl S ((i, ⟨dst, .build t parts.toArray, T, pos, af, g⟩, b) :: E) Q f :=
  .val hw (fun w => by
    have hc : fillL (ps[·]?) z (evp f parts) = some cs := hc0.trans (by rw [hnf.eq])
    have := hB.run _ _ hc w
    rw [← evp_eq] at this
    simp only [execOp, List.map_toArray, Sem.run_bind, this, Result.andThen_ok, Sem.run_pure]) hd h

/-- So many zero values. -/
def zerosL (z : List Value) : Nat → List Value
  | 0 => []
  | k + 1 => z ++ zerosL z k
theorem zerosL_length (z : List Value) : ∀ k, (zerosL z k).length = k * z.length
  | 0 => by simp [zerosL]
  | k + 1 => by simp [zerosL, zerosL_length z k, Nat.add_mul, Nat.add_comm]
theorem zerosL_get (z : List Value) : ∀ (k j : Nat), j < k * z.length → (zerosL z k)[j]? = z[j % z.length]?
  | 0, j, h => by simp at h
  | k + 1, j, h => by
    simp only [zerosL]
    rw [List.getElem?_append]
    split
    · rename_i hj; rw [Nat.mod_eq_of_lt hj]
    · rename_i hj
      have hj' : z.length ≤ j := by omega
      rw [zerosL_get z k (j - z.length) (by rw [Nat.add_mul, Nat.one_mul] at h; omega), Nat.mod_eq_sub_mod hj']
theorem zeros_eq (z : List Value) (k : Nat) : (Array.range (k * z.length)).map (fun x => z.toArray[x % z.toArray.size]!) = (zerosL z k).toArray := by
  refine Array.ext_getElem? fun j => ?_
  by_cases hj : j < k * z.length
  · have hz : 0 < z.length := by rcases Nat.eq_zero_or_pos z.length with h | h; (· rw [h] at hj; simp at hj); (· exact h)
    have hm : j % z.length < z.length := Nat.mod_lt _ hz
    simp [hj, zerosL_get z k j hj, hm]
  · simp [zerosL_length, hj]

theorem JE.buildSlice {t e : TypeId} {m sz : Nat} {parts : List (Nat × Operand)} {zv : Value} {z cs0 cs : List Value} [ht : SliceT P t e] [hs : SizeT P e sz] [hz : ZeroT P e zv]
    (hw : wantF ops f ⟨dst, .buildSlice t m parts.toArray, T, pos, af, g⟩ = true) (hm : Nat.ble (m * sz) 16777216 = true) (h0 : Nat.blt 0 (m * sz) = true) (hz' : cellsL zv = z) (hzl : z.length = sz)
    (hc0 : fillL (fun j => some (j * sz, sz)) (zerosL z m) (evp f parts) = some cs0) (hnf : NfL cs0 cs) (hd : dstOk n dst = true)
    (h : ∀ k, W0.heap.size ≤ k → JE P n ops pl (St W0 olds ((k, cel cs e) :: l)) E Q (updO f dst (.slice (some ⟨k, 0, none⟩) m m))) :
    JE P n ops pl (St W0 olds l) ((i, ⟨dst, .buildSlice t m parts.toArray, T, pos, af, g⟩, false) :: E) Q f := ⟨fun w hS => by
  refine WE.act (R := fun v w' => v = .slice (some ⟨w.heap.size, 0, none⟩) m m ∧ w' = w.alloc (cel cs e)) hw ?_ hd ?_
  · have hm' : ¬ (m * sz > 2 ^ 24) := by have := Nat.le_of_ble_eq_true hm; omega
    have hc : fillL (fun j => some (j * sz, sz)) (zerosL z m) (evp f parts) = some cs := hc0.trans (by rw [hnf.eq])
    have h0' : ¬ (m * sz = 0) := by
      have : 1 ≤ m * sz := by simpa [Nat.blt] using h0
      omega
    have e1 := fill_eq hc
    rw [← evp_eq] at e1
    have e2 := zeros_eq z m
    rw [hzl] at e2
    have e3 : zv.cells = z.toArray := by rw [cells_eq, hz']
    have e4 : (Instr.buildSlice t m ((parts.toArray).map fun (j, x) => (j, ev f x))).run P w = .ok (.slice (some ⟨w.heap.size, 0, none⟩) m m) (w.alloc (cel cs e)) := by
      simp only [Instr.buildSlice, Sem.run_bind, ht.under, hs.size, Result.andThen_ok, hm', if_false, Sem.run_pure, h0', hz.zero, e3, e2, List.map_toArray, e1, newRow, run_newObj]
      rfl
    simp only [Step, execOp, Sem.run_bind, e4, Result.andThen_ok, Sem.run_pure, and_self]
  · rintro v w' ⟨rfl, rfl⟩
    exact ⟨pl.grow i w _ ((Below.refl _ _).alloc (Nat.le_refl _) _), (h _ hS.size).run _ (hS.alloc _)⟩⟩
end
end Go.Proofs.YtnapfiheholhiaaSym
