/-
  The calculus of this claim, second part: the symbolic heap and the rules of the operations. Conditions: none.
-/
import Derived.Test.YtnapfiheholhiaaSym
set_option linter.unusedVariables false
set_option linter.unusedSimpArgs false
namespace Go.Proofs.YtnapfiheholhiaaSym
open Go Go.RowKit

/-! ### The symbolic heap -/
/-- w came out of W0: what W0 held stands, but for the blocks 'olds'; of the blocks in l it is known what they hold. -/
structure St (W0 : World) (olds : List Nat) (l : List (Nat × Obj)) (w : World) : Prop where
  os : w.os = W0.os
  tape : w.tape = W0.tape
  output : w.output = W0.output
  size : W0.heap.size ≤ w.heap.size
  block : ∀ k, k < W0.heap.size → k ∉ olds → w.heap[k]? = W0.heap[k]?
  own : ∀ x ∈ l, w.heap[x.1]? = some x.2
  new : ∀ x ∈ l, x.1 < W0.heap.size → x.1 ∈ olds
  nodup : (l.map (·.1)).Nodup

inductive In {α : Type} : List α → α → Prop
  | head {x : α} {l : List α} : In (x :: l) x
  | tail {x y : α} {l : List α} : In l x → In (y :: l) x
theorem In.mem {α : Type} {l : List α} {x : α} (h : In l x) : x ∈ l := by
  induction h with
  | head => exact List.mem_cons_self
  | tail _ ih => exact List.mem_cons_of_mem _ ih

/-- l' is l with block b's object o turned to o'. -/
inductive Turn : List (Nat × Obj) → Nat → Obj → Obj → List (Nat × Obj) → Prop
  | head {b : Nat} {o o' : Obj} {l : List (Nat × Obj)} : Turn ((b, o) :: l) b o o' ((b, o') :: l)
  | tail {x : Nat × Obj} {b : Nat} {o o' : Obj} {l l' : List (Nat × Obj)} : Turn l b o o' l' → Turn (x :: l) b o o' (x :: l')

theorem Turn.mem {l l' : List (Nat × Obj)} {b : Nat} {o o' : Obj} (h : Turn l b o o' l') : (b, o) ∈ l := by
  induction h with
  | head => exact List.mem_cons_self
  | tail _ ih => exact List.mem_cons_of_mem _ ih
theorem Turn.keys {l l' : List (Nat × Obj)} {b : Nat} {o o' : Obj} (h : Turn l b o o' l') : l'.map (·.1) = l.map (·.1) := by
  induction h with
  | head => rfl
  | tail _ ih => simp only [List.map_cons, ih]
theorem Turn.cases_mem {l l' : List (Nat × Obj)} {b : Nat} {o o' : Obj} (h : Turn l b o o' l') (hn : (l.map (·.1)).Nodup) : ∀ x ∈ l', (x = (b, o')) ∨ (x ∈ l ∧ x.1 ≠ b) := by
  induction h with
  | head =>
    rename_i l
    intro x hx
    rcases List.mem_cons.1 hx with rfl | hx
    · exact .inl rfl
    · refine .inr ⟨List.mem_cons_of_mem _ hx, fun e => ?_⟩
      simp only [List.map_cons, List.nodup_cons] at hn
      exact hn.1 (e ▸ List.mem_map_of_mem hx)
  | tail ht ih =>
    intro x hx
    simp only [List.map_cons, List.nodup_cons] at hn
    rcases List.mem_cons.1 hx with rfl | hx
    · refine .inr ⟨List.mem_cons_self, fun e => ?_⟩
      exact hn.1 (e ▸ List.mem_map_of_mem (f := (·.1)) ht.mem)
    · rcases ih hn.2 x hx with h | h
      · exact .inl h
      · exact .inr ⟨List.mem_cons_of_mem _ h.1, h.2⟩

section
variable {W0 w w' : World} {olds : List Nat} {l l' : List (Nat × Obj)}

theorem St.start (W : World) : St W [] [] W := ⟨rfl, rfl, rfl, Nat.le_refl _, fun _ _ _ => rfl, by simp, by simp, by simp⟩
theorem St.lt (h : St W0 olds l w) {b : Nat} {o : Obj} (hm : (b, o) ∈ l) : b < w.heap.size := (Array.getElem?_eq_some_iff.1 (h.own _ hm)).1
theorem St.drew (h : St W0 olds l w) : St W0 olds l w.drew := ⟨h.os, h.tape, h.output, h.size, h.block, h.own, h.new, h.nodup⟩
theorem St.alloc (h : St W0 olds l w) (o : Obj) : St W0 olds ((w.heap.size, o) :: l) (w.alloc o) := by
  refine ⟨h.os, h.tape, h.output, by rw [World.size_alloc]; have := h.size; omega, fun k hk hn => ?_, fun x hx => ?_, fun x hx hlt => ?_, ?_⟩
  · rw [Below.heap_alloc _ _ _ (by have := h.size; omega)]; exact h.block k hk hn
  · rcases List.mem_cons.1 hx with rfl | hx
    · exact heap_alloc_new w o
    · rw [Below.heap_alloc _ _ _ (h.lt (b := x.1) (o := x.2) hx)]; exact h.own x hx
  · rcases List.mem_cons.1 hx with rfl | hx
    · have := h.size; simp at hlt; omega
    · exact h.new x hx hlt
  · simp only [List.map_cons, List.nodup_cons]
    refine ⟨fun hm => ?_, h.nodup⟩
    obtain ⟨x, hx, e⟩ := List.mem_map.1 hm
    have := h.lt (b := x.1) (o := x.2) hx
    omega
theorem St.grow (h : St W0 olds l w) (hb : Below w.heap.size w w') : St W0 olds l w' :=
  ⟨hb.os.trans h.os, hb.tape.trans h.tape, hb.output.trans h.output, Nat.le_trans h.size hb.size, fun k hk hn => (hb.block k (by have := h.size; omega)).trans (h.block k hk hn),
    fun x hx => (hb.block x.1 (h.lt (b := x.1) (o := x.2) hx)).trans (h.own x hx), h.new, h.nodup⟩
theorem St.sub (h : St W0 olds l w) (hs : List.Sublist l' l) : St W0 olds l' w :=
  ⟨h.os, h.tape, h.output, h.size, h.block, fun x hx => h.own x (hs.subset hx), fun x hx => h.new x (hs.subset hx), h.nodup.sublist (hs.map _)⟩
theorem St.tl {x : Nat × Obj} (h : St W0 olds (x :: l) w) : St W0 olds l w := h.sub (List.sublist_cons_self _ _)
theorem St.old (h : St W0 olds l w) {k : Nat} {o : Obj} (hn : k ∉ olds) (ho : W0.heap[k]? = some o) : w.heap[k]? = some o :=
  (h.block k (Array.getElem?_eq_some_iff.1 ho).1 hn).trans ho
theorem St.below (h : St W0 [] l w) : Below W0.heap.size W0 w := ⟨h.os, h.tape, h.output, h.size, fun k hk => h.block k hk (by simp)⟩
theorem St.of_below (h : Below W0.heap.size W0 w) : St W0 [] [] w := (St.start W0).grow h

/-- A start at which some old blocks are known. -/
theorem St.startO {W : World} {l : List (Nat × Obj)} (h : ∀ x ∈ l, W.heap[x.1]? = some x.2) (hn : (l.map (·.1)).Nodup) : St W (l.map (·.1)) l W :=
  ⟨rfl, rfl, rfl, Nat.le_refl _, fun _ _ _ => rfl, h, fun _ hx _ => List.mem_map_of_mem hx, hn⟩
/-- Whatever was known of the old blocks is so still. -/
theorem St.belowO (h : St W0 olds l w) (hk : ∀ k ∈ olds, ∃ o, (k, o) ∈ l ∧ W0.heap[k]? = some o) : Below W0.heap.size W0 w :=
  ⟨h.os, h.tape, h.output, h.size, fun k hlt => by
    by_cases hm : k ∈ olds
    · obtain ⟨o, h1, h2⟩ := hk k hm
      exact (h.own _ h1).trans h2.symm
    · exact h.block k hlt hm⟩
theorem St.ne (h : St W0 olds l w) {x y : Nat × Obj} {l1 : List (Nat × Obj)} (e : l = x :: l1) (hy : y ∈ l1) : x.1 ≠ y.1 := fun e' => by
  subst e
  have := h.nodup
  simp only [List.map_cons, List.nodup_cons] at this
  exact this.1 (e' ▸ List.mem_map_of_mem hy)

/-- Block b is turned to o'. -/
def _root_.Go.World.turned (w : World) (b : Nat) (o : Obj) : World := { w with heap := w.heap.setIfInBounds b o }
theorem turned_other (w : World) {b k : Nat} (o : Obj) (h : k ≠ b) : (w.turned b o).heap[k]? = w.heap[k]? := by
  simp only [World.turned]; rw [Array.getElem?_setIfInBounds_ne (fun e => h e.symm)]
theorem turned_same (w : World) {b : Nat} (o : Obj) (h : b < w.heap.size) : (w.turned b o).heap[b]? = some o := by
  simp only [World.turned]; rw [Array.getElem?_setIfInBounds_self_of_lt h]
theorem turned_turned (w : World) (b : Nat) (o o' : Obj) : (w.turned b o).turned b o' = w.turned b o' := by
  simp only [World.turned, World.mk.injEq, and_true]
  refine Array.ext_getElem? fun i => ?_
  by_cases hi : i = b
  · subst hi
    by_cases h : i < w.heap.size
    · rw [Array.getElem?_setIfInBounds_self_of_lt (by simpa using h), Array.getElem?_setIfInBounds_self_of_lt h]
    · rw [Array.getElem?_eq_none (by simpa using h), Array.getElem?_eq_none (by simpa using h)]
  · rw [Array.getElem?_setIfInBounds_ne (fun e => hi e.symm), Array.getElem?_setIfInBounds_ne (fun e => hi e.symm), Array.getElem?_setIfInBounds_ne (fun e => hi e.symm)]
theorem turned_id (w : World) {b : Nat} {o : Obj} (h : w.heap[b]? = some o) : w.turned b o = w := by
  have : w.heap.setIfInBounds b o = w.heap := by
    refine Array.ext_getElem? fun i => ?_
    by_cases hi : i = b
    · subst hi; rw [Array.getElem?_setIfInBounds_self_of_lt (Array.getElem?_eq_some_iff.1 h).1, h]
    · rw [Array.getElem?_setIfInBounds_ne (fun e => hi e.symm)]
  simp only [World.turned, this]

theorem St.turned {b : Nat} {o o' : Obj} (h : St W0 olds l w) (ht : Turn l b o o' l') : St W0 olds l' (w.turned b o') := by
  have hlt := h.lt ht.mem
  have hold : b < W0.heap.size → b ∈ olds := h.new (b, o) ht.mem
  refine ⟨h.os, h.tape, h.output, by simp [World.turned, h.size], fun k hk hn => ?_, fun x hx => ?_, fun x hx hx' => ?_, by rw [ht.keys]; exact h.nodup⟩
  · rw [turned_other w o' (fun e => hn (by subst e; exact hold hk))]; exact h.block k hk hn
  · rcases ht.cases_mem h.nodup x hx with rfl | ⟨hx, hne⟩
    · exact turned_same w o' hlt
    · rw [turned_other w o' hne]; exact h.own x hx
  · rcases ht.cases_mem h.nodup x hx with rfl | ⟨hx, _⟩
    · exact hold hx'
    · exact h.new x hx hx'
end

/-! ### Cells -/
/-- A row of cells that may be written. -/
def cel (cs : List Value) (T : TypeId) : Obj := .cells cs.toArray T (0, 0)
def nthV : List Value → Nat → Option Value
  | [], _ => none
  | a :: _, 0 => some a
  | _ :: r, k + 1 => nthV r k
theorem nthV_eq : ∀ (l : List Value) (k : Nat), nthV l k = l[k]?
  | [], _ => by simp [nthV]
  | a :: _, 0 => by simp [nthV]
  | _ :: r, k + 1 => by simp [nthV, nthV_eq r k]
def cellsL : Value → List Value
  | .agg cs => cs.toList
  | v => [v]
theorem cells_eq (v : Value) : v.cells = (cellsL v).toArray := by cases v <;> simp [Value.cells, cellsL]
def oneV : Value → Bool
  | .agg _ | .tuple _ => false
  | _ => true

section
variable {P : Program} {w : World} {T : TypeId}

theorem cell?_block {b off : Nat} {c : Array Value} {fr : Nat × Nat} (hb : w.heap[b]? = some (.cells c T fr)) : w.cell? ⟨b, off, none⟩ = c[off]? := by
  simp [World.cell?, hb]

/-- A variable of one cell. -/
class Scal (P : Program) (t : TypeId) : Prop where
  isAgg : ∀ w, (isAgg t).run P w = .ok false w
  size : ∀ w, (sizeOf t).run P w = .ok 1 w
/-- A variable of several cells. -/
class AggT (P : Program) (t : TypeId) (k : outParam Nat) : Prop where
  isAgg : ∀ w, (isAgg t).run P w = .ok true w
  size : ∀ w, (sizeOf t).run P w = .ok k w
class ZeroT (P : Program) (t : TypeId) (z : outParam Value) : Prop where
  zero : ∀ w, (zeroValue t).run P w = .ok z w
class FieldT (P : Program) (t : TypeId) (i : Nat) (off : outParam Nat) : Prop where
  run : ∀ b o w, (Instr.fieldAt t (.pointer (some ⟨b, o, none⟩)) i).run P w = .ok (.pointer (some ⟨b, o + off, none⟩)) w
class EntersF (P : Program) (g : FuncId) : Prop where
  enters : ∀ args w, (callFunc g args).run P w = .ok (.enter g args) w

theorem add_eq (b off k : Nat) : (⟨b, off, none⟩ : Addr).add k = ⟨b, off + k, none⟩ := by unfold Addr.add; split <;> simp_all

theorem run_load1 {b off : Nat} {cs : List Value} {T' : TypeId} {v : Value} [h : Scal P T] (hb : w.heap[b]? = some (cel cs T')) (hv : nthV cs off = some v) :
    (loadVar T ⟨b, off, none⟩).run P w = .ok v w := by
  have hc : w.cell? ⟨b, off, none⟩ = some v := by rw [cell?_block hb, ← hv, nthV_eq]; simp
  simp [loadVar, h.isAgg, hc]

/-- The cells from off on. -/
def subL : List Value → Nat → Nat → List Value
  | _, _, 0 => []
  | [], _, _ => []
  | a :: r, 0, k + 1 => a :: subL r 0 k
  | _ :: r, o + 1, k + 1 => subL r o (k + 1)
theorem subL_get : ∀ (cs : List Value) (off k j : Nat) (v : Value), (subL cs off k)[j]? = some v → cs[off + j]? = some v
  | [], off, k, j, v, h => by cases k <;> simp [subL] at h
  | _ :: _, _, 0, j, v, h => by simp [subL] at h
  | a :: r, 0, k + 1, j, v, h => by
    cases j with
    | zero => simpa [subL] using h
    | succ j =>
      have := subL_get r 0 k j v (by simpa [subL] using h)
      simpa [Nat.zero_add] using this
  | _ :: r, o + 1, k + 1, j, v, h => by
    have := subL_get r o (k + 1) j v (by simpa [subL] using h)
    rw [show o + 1 + j = (o + j) + 1 by omega]
    simpa using this

theorem run_loadN {b off k : Nat} {cs vs : List Value} {T' : TypeId} [h : AggT P T k] (hb : w.heap[b]? = some (cel cs T')) (hs : subL cs off k = vs) (hl : vs.length = k) :
    (loadVar T ⟨b, off, none⟩).run P w = .ok (.agg vs.toArray) w := by
  have hc : ∀ j v, vs[j]? = some v → w.cell? ((⟨b, off, none⟩ : Addr).add j) = some v := fun j v hj => by
    rw [add_eq, cell?_block hb]
    have := subL_get cs off k j v (by rw [hs]; exact hj)
    simpa using this
  have := run_loadCells_list (P := P) w ⟨b, off, none⟩ vs hc
  rw [hl] at this
  simp [loadVar, h.isAgg, h.size, this]

theorem run_loadAll {b k : Nat} {cs : List Value} {T' : TypeId} [h : AggT P T k] (hb : w.heap[b]? = some (cel cs T')) (hl : cs.length = k) :
    (loadVar T ⟨b, 0, none⟩).run P w = .ok (.agg cs.toArray) w := by
  have hc : ∀ j v, cs[j]? = some v → w.cell? ((⟨b, 0, none⟩ : Addr).add j) = some v := fun j v hj => by
    rw [add_eq, cell?_block hb]
    simpa using hj
  have := run_loadCells_list (P := P) w ⟨b, 0, none⟩ cs hc
  rw [hl] at this
  simp [loadVar, h.isAgg, h.size, this]

/-- vs laid over cs from place k on. -/
def lay (cs : List Value) (k : Nat) : List Value → List Value
  | [] => cs
  | v :: r => lay (cs.set k v) (k + 1) r
theorem lay_length : ∀ (vs cs : List Value) (k : Nat), (lay cs k vs).length = cs.length
  | [], _, _ => rfl
  | _ :: r, cs, k => by rw [lay, lay_length r]; simp

theorem setCell_turned {b off : Nat} {cs : List Value} {T' : TypeId} {v : Value} (hb : w.heap[b]? = some (cel cs T')) :
    w.setCell ⟨b, off, none⟩ v = w.turned b (cel (cs.set off v) T') := by
  simp only [World.setCell, World.turned, World.mk.injEq, and_true]
  refine Array.ext_getElem? fun i => ?_
  by_cases hi : i = b
  · subst hi
    rw [Array.getElem?_modify, if_pos rfl, hb, Array.getElem?_setIfInBounds_self_of_lt (Array.getElem?_eq_some_iff.1 hb).1]
    simp [cel]
  · rw [Array.getElem?_modify, if_neg (fun e => hi e.symm), Array.getElem?_setIfInBounds_ne (fun e => hi e.symm)]

theorem run_storeCells {T' : TypeId} {b : Nat} : ∀ (vs : List Value) (w : World) (off i : Nat) (cs : List Value), w.heap[b]? = some (cel cs T') → off + i + vs.length ≤ cs.length → (∀ v ∈ vs, oneV v = true) →
    (storeCells ⟨b, off, none⟩ vs i).run P w = .ok () (w.turned b (cel (lay cs (off + i) vs) T'))
  | [], w, off, i, cs, hb, _, _ => by simp only [storeCells, Sem.run_pure, lay]; rw [turned_id w hb]
  | v :: r, w, off, i, cs, hb, hl, h1 => by
    simp only [List.length_cons] at hl
    have hv : v.oneCell' = true := by have := h1 v List.mem_cons_self; cases v <;> simp_all [oneV, Value.oneCell']
    have hc : w.cell? ⟨b, off + i, none⟩ = some cs[off + i] := by rw [cell?_block hb]; simp
    have hf : w.frozen? ⟨b, off + i, none⟩ = false := by simp [World.frozen?, hb, cel]
    have hlt : b < w.heap.size := (Array.getElem?_eq_some_iff.1 hb).1
    simp only [storeCells, Sem.run_bind, add_eq, run_store P w _ v _ hv, hc, hf, Bool.false_eq_true, if_false, Result.andThen_ok]
    rw [setCell_turned hb, run_storeCells r (w.turned b (cel (cs.set (off + i) v) T')) off (i + 1) _ (turned_same w _ hlt) (by simp; omega) (fun u hu => h1 u (List.mem_cons_of_mem _ hu)), turned_turned]
    rfl

theorem run_storeVar {b off k : Nat} {cs : List Value} {T' : TypeId} {v : Value} (hb : w.heap[b]? = some (cel cs T')) (hs : ∀ w, (sizeOf T).run P w = .ok k w) (hk : (cellsL v).length = k)
    (hl : off + k ≤ cs.length) (h1 : ∀ u ∈ cellsL v, oneV u = true) : (storeVar T ⟨b, off, none⟩ v).run P w = .ok () (w.turned b (cel (lay cs off (cellsL v)) T')) := by
  have hz : v.cells.size = k := by rw [cells_eq]; simpa using hk
  have := run_storeCells (P := P) (T' := T') (cellsL v) w off 0 cs hb (by omega) h1
  simp only [storeVar, Sem.run_bind, hs, Result.andThen_ok, hz, ne_eq, not_true_eq_false, if_false]
  rw [cells_eq]
  simpa using this
end

/-! ### The rules -/
section
variable {P : Program} {n : Nat} {ops : Array Oper} {pl : Plan} {S : World → Prop} {E : List Entry} {Q : Post} {f : Fr} {i : Nat} {b : Bool}
variable {dst : Option Tmp} {T : TypeId} {pos : String} {af : Array Edge} {g : Option (Nat × Bool)} {W0 : World} {olds : List Nat} {l l' : List (Nat × Obj)}

/-! Which kind of operation comes next? -/
theorem JE.kBin {o : BinOp} {t t2 : TypeId} {x y : Operand} (h : JE P n ops pl S ((i, ⟨dst, .binOp o t x y t2, T, pos, af, g⟩, b) :: E) Q f) : JE P n ops pl S ((i, ⟨dst, .binOp o t x y t2, T, pos, af, g⟩, b) :: E) Q f := h
theorem JE.kField {t : TypeId} {x : Operand} {j : Nat} (h : JE P n ops pl S ((i, ⟨dst, .fieldAddr t x j, T, pos, af, g⟩, b) :: E) Q f) : JE P n ops pl S ((i, ⟨dst, .fieldAddr t x j, T, pos, af, g⟩, b) :: E) Q f := h
theorem JE.kLoad {t : TypeId} {x : Operand} (h : JE P n ops pl S ((i, ⟨dst, .load t x, T, pos, af, g⟩, b) :: E) Q f) : JE P n ops pl S ((i, ⟨dst, .load t x, T, pos, af, g⟩, b) :: E) Q f := h
theorem JE.kStore {t : TypeId} {x y : Operand} (h : JE P n ops pl S ((i, ⟨dst, .store t x y, T, pos, af, g⟩, b) :: E) Q f) : JE P n ops pl S ((i, ⟨dst, .store t x y, T, pos, af, g⟩, b) :: E) Q f := h
theorem JE.kBox {t : TypeId} {x : Operand} (h : JE P n ops pl S ((i, ⟨dst, .box t x, T, pos, af, g⟩, b) :: E) Q f) : JE P n ops pl S ((i, ⟨dst, .box t x, T, pos, af, g⟩, b) :: E) Q f := h
theorem JE.kAlloc {t : TypeId} (h : JE P n ops pl S ((i, ⟨dst, .alloc t, T, pos, af, g⟩, b) :: E) Q f) : JE P n ops pl S ((i, ⟨dst, .alloc t, T, pos, af, g⟩, b) :: E) Q f := h
theorem JE.kBuiltin {u : Builtin} {xs : Array Operand} {ts : Array TypeId} (h : JE P n ops pl S ((i, ⟨dst, .call { callee := .builtin u, args := xs, argTypes := ts }, T, pos, af, g⟩, b) :: E) Q f) : JE P n ops pl S ((i, ⟨dst, .call { callee := .builtin u, args := xs, argTypes := ts }, T, pos, af, g⟩, b) :: E) Q f := h
theorem JE.kBuild {t : TypeId} {ps : Array (Nat × Operand)} (h : JE P n ops pl S ((i, ⟨dst, .build t ps, T, pos, af, g⟩, b) :: E) Q f) : JE P n ops pl S ((i, ⟨dst, .build t ps, T, pos, af, g⟩, b) :: E) Q f := h
theorem JE.kRange {t : TypeId} {x : Operand} (h : JE P n ops pl S ((i, ⟨dst, .range t x, T, pos, af, g⟩, b) :: E) Q f) : JE P n ops pl S ((i, ⟨dst, .range t x, T, pos, af, g⟩, b) :: E) Q f := h
theorem JE.kNext {x : Operand} {u : Bool} (h : JE P n ops pl S ((i, ⟨dst, .next x u, T, pos, af, g⟩, b) :: E) Q f) : JE P n ops pl S ((i, ⟨dst, .next x u, T, pos, af, g⟩, b) :: E) Q f := h
theorem JE.kLookup {t : TypeId} {x y : Operand} {u : Bool} (h : JE P n ops pl S ((i, ⟨dst, .lookup t x y u, T, pos, af, g⟩, b) :: E) Q f) : JE P n ops pl S ((i, ⟨dst, .lookup t x y u, T, pos, af, g⟩, b) :: E) Q f := h
theorem JE.kUpdate {t : TypeId} {x y z : Operand} (h : JE P n ops pl S ((i, ⟨dst, .mapUpdate t x y z, T, pos, af, g⟩, b) :: E) Q f) : JE P n ops pl S ((i, ⟨dst, .mapUpdate t x y z, T, pos, af, g⟩, b) :: E) Q f := h
theorem JE.kIndexAddr {t : TypeId} {x y : Operand} (h : JE P n ops pl S ((i, ⟨dst, .indexAddr t x y, T, pos, af, g⟩, b) :: E) Q f) : JE P n ops pl S ((i, ⟨dst, .indexAddr t x y, T, pos, af, g⟩, b) :: E) Q f := h
theorem JE.kIndex {t : TypeId} {x y : Operand} (h : JE P n ops pl S ((i, ⟨dst, .index t x y, T, pos, af, g⟩, b) :: E) Q f) : JE P n ops pl S ((i, ⟨dst, .index t x y, T, pos, af, g⟩, b) :: E) Q f := h
theorem JE.kSlice {t : TypeId} {x : Operand} {lo hi mx : Option Operand} (h : JE P n ops pl S ((i, ⟨dst, .slice t x lo hi mx, T, pos, af, g⟩, b) :: E) Q f) : JE P n ops pl S ((i, ⟨dst, .slice t x lo hi mx, T, pos, af, g⟩, b) :: E) Q f := h
theorem JE.kBuildSlice {t : TypeId} {m : Nat} {ps : Array (Nat × Operand)} (h : JE P n ops pl S ((i, ⟨dst, .buildSlice t m ps, T, pos, af, g⟩, b) :: E) Q f) : JE P n ops pl S ((i, ⟨dst, .buildSlice t m ps, T, pos, af, g⟩, b) :: E) Q f := h
theorem JE.kConvert {t u : TypeId} {x : Operand} (h : JE P n ops pl S ((i, ⟨dst, .convert t u x, T, pos, af, g⟩, b) :: E) Q f) : JE P n ops pl S ((i, ⟨dst, .convert t u x, T, pos, af, g⟩, b) :: E) Q f := h
theorem JE.kMakeMap {t : TypeId} {r : Option Operand} (h : JE P n ops pl S ((i, ⟨dst, .makeMap t r, T, pos, af, g⟩, b) :: E) Q f) : JE P n ops pl S ((i, ⟨dst, .makeMap t r, T, pos, af, g⟩, b) :: E) Q f := h

theorem JE.kNil {x : Operand} (h : JE P n ops pl S ((i, ⟨dst, .nilCheck x, T, pos, af, g⟩, b) :: E) Q f) : JE P n ops pl S ((i, ⟨dst, .nilCheck x, T, pos, af, g⟩, b) :: E) Q f := h
theorem JE.skip {o : Oper} (hw : wantF ops f o = false) (hd : dstOk n o.dst = true) (h : JE P n ops pl S E Q (updO f o.dst undef)) : JE P n ops pl S ((i, o, b) :: E) Q f := ⟨fun w hS =>
  .skip hw hd (h.run w hS)⟩

def evs (f : Fr) : List Operand → List Value
  | [] => []
  | x :: r => ev f x :: evs f r
theorem evs_eq : ∀ (l : List Operand), l.map (ev f) = evs f l
  | [] => rfl
  | x :: r => by simp [evs, evs_eq r]

theorem evs_arr (xs : Array Operand) : xs.map (ev f) = (evs f xs.toList).toArray := by
  cases xs
  rw [← evs_eq]
  simp

/-- What needs no memory. -/
def pval (f : Fr) : Op → Option Value
  | .move x | .assign x => some (ev f x)
  | .pick c x y => match ev f c with | .bool t => some (cond t (ev f x) (ev f y)) | _ => none
  | .unOp .not _ x => match ev f x with | .bool t => some (.bool !t) | _ => none
  | .unOp .neg _ x => match ev f x with | .int k a => some (.int k (k.wrap (0 - a))) | _ => none
  | .extract x j => match ev f x with | .tuple vs => nthV vs.toList j | _ => none
  | .makeFunc fn first cap => some (.func fn (evs f first.toList).toArray (evs f cap.toList).toArray)
  | _ => none

theorem pval_run {o : Oper} {v : Value} (h : pval f o.op = some v) (w : World) : (execOp (ev f) o).run P w = .ok (.value v) w := by
  unfold execOp
  generalize o.op = op at h
  cases op <;> simp only [pval, reduceCtorEq] at h
  case move x => cases h; rfl
  case assign x => cases h; rfl
  case pick c x y =>
    split at h
    · rename_i t ht; cases h; simp only [ht, asBool]; cases t <;> rfl
    · cases h
  case unOp op t x =>
    cases op <;> simp only [reduceCtorEq] at h
    · split at h
      · rename_i k a ha; cases h; simp [ha, Op.unary, Op.intArith]
      · cases h
    · split at h
      · rename_i t ht; cases h; simp [ht, Op.unary]
      · cases h
  case extract x j =>
    split at h
    · rename_i vs hv
      have : vs[j]? = some v := by rw [← h, nthV_eq]; simp
      simp [hv, Instr.extract, this]
    · cases h
  case makeFunc fn first cap => cases h; simp [Instr.makeFunc, evs_arr]

theorem JE.pure {op : Op} {u v : Value} (hw : wantF ops f ⟨dst, op, T, pos, af, g⟩ = true) (hp : pval f op = some u) (hu : u = v) (hd : dstOk n dst = true)
    (h : JE P n ops pl S E Q (updO f dst v)) : JE P n ops pl S ((i, ⟨dst, op, T, pos, af, g⟩, b) :: E) Q f := ⟨fun w hS =>
  .quiet (fun _ => True) (fun _ => pl.triv i) trivial hw (fun w _ => pval_run (o := ⟨dst, op, T, pos, af, g⟩) (hu ▸ hp) w) hd (h.run w hS)⟩

/-- Whole numbers: what an operation yields. -/
def ival : BinOp → IntKind → Int → Int → Option Value
  | .add, k, x, y => some (.int k (k.wrap (x + y)))
  | .sub, k, x, y => some (.int k (k.wrap (x - y)))
  | .mul, k, x, y => some (.int k (k.wrap (x * y)))
  | .eql, _, x, y => some (.bool (decide (x = y)))
  | .neq, _, x, y => some (.bool (decide (x ≠ y)))
  | .lss, _, x, y => some (.bool (decide (x < y)))
  | .leq, _, x, y => some (.bool (decide (x ≤ y)))
  | .gtr, _, x, y => some (.bool (decide (y < x)))
  | .geq, _, x, y => some (.bool (decide (y ≤ x)))
  | _, _, _, _ => none

theorem ival_run {op : BinOp} {k : IntKind} {x y : Int} {v : Value} (h : ival op k x y = some v) (t : TypeId) (a c : Operand) (ha : ev f a = .int k x) (hc : ev f c = .int k y) (t' : TypeId) (w : World) :
    (execOp (ev f) ⟨dst, .binOp op t a c t', T, pos, af, g⟩).run P w = .ok (.value v) w := by
  simp only [execOp, ha, hc]
  cases op <;> simp only [ival, reduceCtorEq] at h <;> cases h <;> simp [eqGuard, binOp, Op.intArith, Op.intCmp, bne]
  all_goals first | rfl | (rw [Bool.eq_iff_iff]; simp)

theorem JE.int {op : BinOp} {t t' : TypeId} {a c : Operand} {k : IntKind} {x y : Int} {u v : Value} (hw : wantF ops f ⟨dst, .binOp op t a c t', T, pos, af, g⟩ = true) (ha : ev f a = .int k x) (hc : ev f c = .int k y)
    (hp : ival op k x y = some u) (hu : u = v) (hd : dstOk n dst = true)
    (h : JE P n ops pl S E Q (updO f dst v)) : JE P n ops pl S ((i, ⟨dst, .binOp op t a c t', T, pos, af, g⟩, b) :: E) Q f := ⟨fun w hS =>
  .quiet (fun _ => True) (fun _ => pl.triv i) trivial hw (fun w _ => ival_run (hu ▸ hp) t a c ha hc t' w) hd (h.run w hS)⟩

/-- A Bool in the slot written last: both ways. -/
theorem JE.ways {c : Bool} {dst : Option Tmp} (ht : c = true → JE P n ops pl S E Q (updO f dst (.bool true))) (hf : c = false → JE P n ops pl S E Q (updO f dst (.bool false))) :
    JE P n ops pl S E Q (updO f dst (.bool c)) := by cases c; exact hf rfl; exact ht rfl
theorem JE.waysD {p : Prop} [Decidable p] {dst : Option Tmp} (ht : p → JE P n ops pl S E Q (updO f dst (.bool true))) (hf : ¬ p → JE P n ops pl S E Q (updO f dst (.bool false))) :
    JE P n ops pl S E Q (updO f dst (.bool (decide p))) := by
  by_cases h : p
  · rw [decide_eq_true h]; exact ht h
  · rw [decide_eq_false h]; exact hf h

theorem JE.box {x : Operand} {t : TypeId} {cs : List Value} (hw : wantF ops f ⟨dst, .box t x, T, pos, af, g⟩ = true) (hx : cellsL (ev f x) = cs) (hd : dstOk n dst = true)
    (h : ∀ k, W0.heap.size ≤ k → JE P n ops pl (St W0 olds ((k, cel cs t) :: l)) E Q (updO f dst (.pointer (some ⟨k, 0, none⟩)))) :
    JE P n ops pl (St W0 olds l) ((i, ⟨dst, .box t x, T, pos, af, g⟩, false) :: E) Q f := ⟨fun w hS => by
  refine WE.act (R := fun v w' => v = .pointer (some ⟨w.heap.size, 0, none⟩) ∧ w' = w.alloc (cel cs t)) hw ?_ hd ?_
  · subst hx
    simp [Step, execOp, Instr.box, newVar, newRow, cells_eq, cel]
  · rintro v w' ⟨rfl, rfl⟩
    exact ⟨pl.grow i w _ ((Below.refl _ _).alloc (Nat.le_refl _) _), (h _ hS.size).run _ (hS.alloc _)⟩⟩

theorem JE.alloc {t : TypeId} {z : Value} {cs : List Value} [hz : ZeroT P t z] (hw : wantF ops f ⟨dst, .alloc t, T, pos, af, g⟩ = true) (hx : cellsL z = cs) (hd : dstOk n dst = true)
    (h : ∀ k, W0.heap.size ≤ k → JE P n ops pl (St W0 olds ((k, cel cs t) :: l)) E Q (updO f dst (.pointer (some ⟨k, 0, none⟩)))) :
    JE P n ops pl (St W0 olds l) ((i, ⟨dst, .alloc t, T, pos, af, g⟩, false) :: E) Q f := ⟨fun w hS => by
  refine WE.act (R := fun v w' => v = .pointer (some ⟨w.heap.size, 0, none⟩) ∧ w' = w.alloc (cel cs t)) hw ?_ hd ?_
  · subst hx
    simp [Step, execOp, Instr.alloc, newVar, newRow, cells_eq, cel, hz.zero]
  · rintro v w' ⟨rfl, rfl⟩
    exact ⟨pl.grow i w _ ((Below.refl _ _).alloc (Nat.le_refl _) _), (h _ hS.size).run _ (hS.alloc _)⟩⟩

theorem JE.fieldAddr {t : TypeId} {x : Operand} {j k o off : Nat} [hf : FieldT P t j off] (hw : wantF ops f ⟨dst, .fieldAddr t x j, T, pos, af, g⟩ = true) (hx : ev f x = .pointer (some ⟨k, o, none⟩)) (hd : dstOk n dst = true)
    (h : JE P n ops pl S E Q (updO f dst (.pointer (some ⟨k, o + off, none⟩)))) : JE P n ops pl S ((i, ⟨dst, .fieldAddr t x j, T, pos, af, g⟩, b) :: E) Q f := ⟨fun w hS =>
  .quiet (fun _ => True) (fun _ => pl.triv i) trivial hw (fun w _ => by simp [execOp, hx, hf.run]) hd (h.run w hS)⟩

/-- A load of one cell out of a known block. -/
theorem JE.load1 {t : TypeId} {x : Operand} {k off : Nat} {cs : List Value} {T' : TypeId} {u v : Value} [Scal P t] (hw : wantF ops f ⟨dst, .load t x, T, pos, af, g⟩ = true) (hx : ev f x = .pointer (some ⟨k, off, none⟩))
    (hk : In l (k, cel cs T')) (hv : nthV cs off = some u) (hu : u = v) (hfree : b = true → pl.free i k) (hd : dstOk n dst = true)
    (h : JE P n ops pl (St W0 olds l) E Q (updO f dst v)) : JE P n ops pl (St W0 olds l) ((i, ⟨dst, .load t x, T, pos, af, g⟩, b) :: E) Q f := ⟨fun w hS =>
  .quiet (fun w => w.heap[k]? = some (cel cs T')) (fun hb => pl.blk i k _ (hfree hb)) (hS.own _ hk.mem) hw
    (fun w hb => by simp [execOp, hx, Instr.loadAt, Instr.sureAddr, run_load1 hb (hu ▸ hv)]) hd (h.run w hS)⟩

theorem JE.loadAll {t : TypeId} {x : Operand} {k m : Nat} {cs : List Value} {T' : TypeId} [AggT P t m] (hw : wantF ops f ⟨dst, .load t x, T, pos, af, g⟩ = true) (hx : ev f x = .pointer (some ⟨k, 0, none⟩))
    (hk : In l (k, cel cs T')) (hl : cs.length = m) (hfree : b = true → pl.free i k) (hd : dstOk n dst = true)
    (h : JE P n ops pl (St W0 olds l) E Q (updO f dst (.agg cs.toArray))) : JE P n ops pl (St W0 olds l) ((i, ⟨dst, .load t x, T, pos, af, g⟩, b) :: E) Q f := ⟨fun w hS =>
  .quiet (fun w => w.heap[k]? = some (cel cs T')) (fun hb => pl.blk i k _ (hfree hb)) (hS.own _ hk.mem) hw
    (fun w hb => by simp [execOp, hx, Instr.loadAt, Instr.sureAddr, run_loadAll hb hl]) hd (h.run w hS)⟩

theorem JE.loadN {t : TypeId} {x : Operand} {k off m : Nat} {cs vs : List Value} {T' : TypeId} [AggT P t m] (hw : wantF ops f ⟨dst, .load t x, T, pos, af, g⟩ = true) (hx : ev f x = .pointer (some ⟨k, off, none⟩))
    (hk : In l (k, cel cs T')) (hs : subL cs off m = vs) (hl : vs.length = m) (hfree : b = true → pl.free i k) (hd : dstOk n dst = true)
    (h : JE P n ops pl (St W0 olds l) E Q (updO f dst (.agg vs.toArray))) : JE P n ops pl (St W0 olds l) ((i, ⟨dst, .load t x, T, pos, af, g⟩, b) :: E) Q f := ⟨fun w hS =>
  .quiet (fun w => w.heap[k]? = some (cel cs T')) (fun hb => pl.blk i k _ (hfree hb)) (hS.own _ hk.mem) hw
    (fun w hb => by simp [execOp, hx, Instr.loadAt, Instr.sureAddr, run_loadN hb hs hl]) hd (h.run w hS)⟩

/-! Loads out of blocks that lay there ahead. -/
theorem JE.load1O {t : TypeId} {x : Operand} {k off : Nat} {cs : List Value} {T' : TypeId} {u v : Value} [Scal P t] (hw : wantF ops f ⟨dst, .load t x, T, pos, af, g⟩ = true) (hx : ev f x = .pointer (some ⟨k, off, none⟩))
    (hb : W0.heap[k]? = some (cel cs T')) (hn : k ∉ olds) (hv : nthV cs off = some u) (hu : u = v) (hfree : b = true → pl.free i k) (hd : dstOk n dst = true)
    (h : JE P n ops pl (St W0 olds l) E Q (updO f dst v)) : JE P n ops pl (St W0 olds l) ((i, ⟨dst, .load t x, T, pos, af, g⟩, b) :: E) Q f := ⟨fun w hS =>
  .quiet (fun w => w.heap[k]? = some (cel cs T')) (fun hb => pl.blk i k _ (hfree hb)) (hS.old hn hb) hw
    (fun w hb => by simp [execOp, hx, Instr.loadAt, Instr.sureAddr, run_load1 hb (hu ▸ hv)]) hd (h.run w hS)⟩

theorem JE.loadAllO {t : TypeId} {x : Operand} {k m : Nat} {cs : List Value} {T' : TypeId} [AggT P t m] (hw : wantF ops f ⟨dst, .load t x, T, pos, af, g⟩ = true) (hx : ev f x = .pointer (some ⟨k, 0, none⟩))
    (hb : W0.heap[k]? = some (cel cs T')) (hn : k ∉ olds) (hl : cs.length = m) (hfree : b = true → pl.free i k) (hd : dstOk n dst = true)
    (h : JE P n ops pl (St W0 olds l) E Q (updO f dst (.agg cs.toArray))) : JE P n ops pl (St W0 olds l) ((i, ⟨dst, .load t x, T, pos, af, g⟩, b) :: E) Q f := ⟨fun w hS =>
  .quiet (fun w => w.heap[k]? = some (cel cs T')) (fun hb => pl.blk i k _ (hfree hb)) (hS.old hn hb) hw
    (fun w hb => by simp [execOp, hx, Instr.loadAt, Instr.sureAddr, run_loadAll hb hl]) hd (h.run w hS)⟩

theorem JE.loadNO {t : TypeId} {x : Operand} {k off m : Nat} {cs vs : List Value} {T' : TypeId} [AggT P t m] (hw : wantF ops f ⟨dst, .load t x, T, pos, af, g⟩ = true) (hx : ev f x = .pointer (some ⟨k, off, none⟩))
    (hb : W0.heap[k]? = some (cel cs T')) (hn : k ∉ olds) (hs : subL cs off m = vs) (hl : vs.length = m) (hfree : b = true → pl.free i k) (hd : dstOk n dst = true)
    (h : JE P n ops pl (St W0 olds l) E Q (updO f dst (.agg vs.toArray))) : JE P n ops pl (St W0 olds l) ((i, ⟨dst, .load t x, T, pos, af, g⟩, b) :: E) Q f := ⟨fun w hS =>
  .quiet (fun w => w.heap[k]? = some (cel cs T')) (fun hb => pl.blk i k _ (hfree hb)) (hS.old hn hb) hw
    (fun w hb => by simp [execOp, hx, Instr.loadAt, Instr.sureAddr, run_loadN hb hs hl]) hd (h.run w hS)⟩

/-- A list, counted out. -/
inductive NfL : List Value → List Value → Prop
  | nil {l : List Value} : l = [] → NfL l []
  | cons {l r r' : List Value} {a v : Value} : l = a :: r → a = v → NfL r r' → NfL l (v :: r')
theorem NfL.eq {l l' : List Value} (h : NfL l l') : l = l' := by
  induction h with
  | nil h => exact h
  | cons h1 h2 _ ih => rw [h1, h2, ih]

/-- A store into a known block. -/
theorem JE.store {t : TypeId} {x y : Operand} {k off m : Nat} {cs cs' vs : List Value} {T' : TypeId} (hw : wantF ops f ⟨dst, .store t x y, T, pos, af, g⟩ = true) (hx : ev f x = .pointer (some ⟨k, off, none⟩))
    (hk : Turn l k (cel cs T') (cel cs' T') l') (hm : ∀ w, (sizeOf t).run P w = .ok m w) (hy : NfL (cellsL (ev f y)) vs) (hvm : vs.length = m) (hl : Nat.ble (off + m) cs.length = true) (h1 : vs.all oneV = true) (hcs : NfL (lay cs off vs) cs')
    (hwr : pl.wr i k) (hd : dstOk n dst = true)
    (h : JE P n ops pl (St W0 olds l') E Q (updO f dst undef)) : JE P n ops pl (St W0 olds l) ((i, ⟨dst, .store t x y, T, pos, af, g⟩, false) :: E) Q f := ⟨fun w hS => by
  have hb := hS.own _ hk.mem
  refine WE.act (R := fun v w' => v = undef ∧ w' = w.turned k (cel cs' T')) hw ?_ hd ?_
  · have hcs := hcs.eq
    have hy := hy.eq
    subst hcs hy
    simp [Step, execOp, hx, Instr.storeAt, Instr.sureAddr, run_storeVar hb hm hvm (Nat.le_of_ble_eq_true hl) (List.all_eq_true.1 h1)]
  · rintro v w' ⟨rfl, rfl⟩
    exact ⟨pl.put i k w _ hwr fun j hj _ => turned_other w _ hj, h.run _ (hS.turned hk)⟩⟩

theorem step_call {fo : Operand} {xs : List Operand} {ts : Array TypeId} {h : FuncId} {first cap : Array Value} [hE : EntersF P h] (hf : ev f fo = .func (.func h) first cap) {w : World} {R : Value → World → Prop}
    (hc : Calls P h (first ++ (evs f xs).toArray ++ cap) w fun e w' => ∃ v, e = .returned v ∧ R v w') :
    Step P f ⟨dst, .call { callee := .value fo, args := xs.toArray, argTypes := ts }, T, pos, af, g⟩ w R := by
  have e : (execOp (ev f) ⟨dst, .call { callee := .value fo, args := xs.toArray, argTypes := ts }, T, pos, af, g⟩).run P w = .ok (.enter h (first ++ (evs f xs).toArray ++ cap)) w := by
    simp [execOp, resolve, hf, Deferred.ofValue, invoke, hE.enters, evs_eq]
  unfold Step
  rw [e]
  exact hc.mono fun x w' ⟨v, hx, hr⟩ => by subst hx; exact hr

/-- Is this a call of function h? -/
theorem JE.isF {xs : List Operand} {ts : Array TypeId} (h : FuncId) (hj : JE P n ops pl S ((i, ⟨dst, .call { callee := .value (.func h), args := xs.toArray, argTypes := ts }, T, pos, af, g⟩, b) :: E) Q f) :
    JE P n ops pl S ((i, ⟨dst, .call { callee := .value (.func h), args := xs.toArray, argTypes := ts }, T, pos, af, g⟩, b) :: E) Q f := hj
theorem JE.isV {t : Tmp} {xs : List Operand} {ts : Array TypeId} (hj : JE P n ops pl S ((i, ⟨dst, .call { callee := .value (.tmp t), args := xs.toArray, argTypes := ts }, T, pos, af, g⟩, b) :: E) Q f) :
    JE P n ops pl S ((i, ⟨dst, .call { callee := .value (.tmp t), args := xs.toArray, argTypes := ts }, T, pos, af, g⟩, b) :: E) Q f := hj

/-- A call that hands back v; what stood stands. -/
def Ret (w : World) (v : Value) (e : Ending) (w' : World) : Prop := e = .returned v ∧ Below w.heap.size w w'

/-- A call of h with ys. -/
structure Does (P : Program) (h : FuncId) (ys : List Value) (w : World) (R : Ending → World → Prop) : Prop where
  run : Calls P h ys.toArray w R
theorem Does.mono {h : FuncId} {ys : List Value} {w : World} {R R' : Ending → World → Prop} (hd : Does P h ys w R) (hr : ∀ e w', R e w' → R' e w') : Does P h ys w R' := ⟨hd.run.mono hr⟩

/-- What is asked of a call of h with ys. -/
structure CallG (P : Program) (n : Nat) (ops : Array Oper) (pl : Plan) (S : World → Prop) (E : List Entry) (Q : Post) (f : Fr) (i : Nat) (dst : Option Tmp) (h : FuncId) (ys : List Value) : Prop where
  run : ∀ w, S w → ∃ R : Value → World → Prop, (Does P h ys w fun e w' => ∃ v, e = .returned v ∧ R v w') ∧ ∀ v w', R v w' → pl.Mod i w w' ∧ WE P n ops pl E Q (updO f dst v) w'

/-- A call of a function. -/
theorem JE.call {fo : Operand} {xs : List Operand} {ts : Array TypeId} {h : FuncId} [EntersF P h] {ys : List Value} (hw : wantF ops f ⟨dst, .call { callee := .value fo, args := xs.toArray, argTypes := ts }, T, pos, af, g⟩ = true)
    (hf : ev f fo = .func (.func h) #[] #[]) (ha : NfL (evs f xs) ys) (hd : dstOk n dst = true) (hg : CallG P n ops pl S E Q f i dst h ys) :
    JE P n ops pl S ((i, ⟨dst, .call { callee := .value fo, args := xs.toArray, argTypes := ts }, T, pos, af, g⟩, false) :: E) Q f := ⟨fun w hS => by
  obtain ⟨R, ⟨h1⟩, h2⟩ := hg.run w hS
  refine WE.act (R := R) hw ?_ hd h2
  refine step_call hf ?_
  have := ha.eq
  subst this
  simpa only [Array.empty_append, Array.append_empty] using h1⟩

/-- A call: of a function, or of a function value that has captured cs. -/
theorem JE.callC {fo : Operand} {xs : List Operand} {ts : Array TypeId} {h : FuncId} [EntersF P h] {ys cs : List Value} (hw : wantF ops f ⟨dst, .call { callee := .value fo, args := xs.toArray, argTypes := ts }, T, pos, af, g⟩ = true)
    (hf : ev f fo = .func (.func h) #[] cs.toArray) (ha : NfL (evs f xs) ys) (hd : dstOk n dst = true) (hg : CallG P n ops pl S E Q f i dst h (ys ++ cs)) :
    JE P n ops pl S ((i, ⟨dst, .call { callee := .value fo, args := xs.toArray, argTypes := ts }, T, pos, af, g⟩, false) :: E) Q f := ⟨fun w hS => by
  obtain ⟨R, ⟨h1⟩, h2⟩ := hg.run w hS
  refine WE.act (R := R) hw ?_ hd h2
  refine step_call hf ?_
  have := ha.eq
  subst this
  simpa only [List.append_toArray, List.nil_append] using h1⟩

theorem CallG.ret {h : FuncId} {ys : List Value} {v : Value} (hc : ∀ w, St W0 olds l w → Does P h ys w (Ret w v)) (hr : JE P n ops pl (St W0 olds l) E Q (updO f dst v)) : CallG P n ops pl (St W0 olds l) E Q f i dst h ys := ⟨fun w hS =>
  ⟨fun u w' => u = v ∧ Below w.heap.size w w', (hc w hS).mono fun _ _ ⟨he, hb⟩ => ⟨v, he, rfl, hb⟩, fun _ w' ⟨e, hb⟩ => by subst e; exact ⟨pl.grow i w _ hb, hr.run _ (hS.grow hb)⟩⟩⟩

/-- A call that hands back v x for some x, and leaves a state that hangs on x. -/
theorem CallG.retX {α : Type} {h : FuncId} {ys : List Value} {v : α → Value} {S' : α → World → Prop} (hc : ∀ w, S w → Does P h ys w fun e w' => ∃ x, e = .returned (v x) ∧ S' x w' ∧ pl.Mod i w w')
    (hr : ∀ x, JE P n ops pl (S' x) E Q (updO f dst (v x))) : CallG P n ops pl S E Q f i dst h ys := ⟨fun w hS =>
  ⟨fun u w' => ∃ x, u = v x ∧ S' x w' ∧ pl.Mod i w w', (hc w hS).mono fun _ _ ⟨x, he, hb⟩ => ⟨v x, he, x, rfl, hb⟩, fun _ w' ⟨x, e, hb, hm⟩ => by subst e; exact ⟨hm, (hr x).run _ hb⟩⟩⟩
theorem St.fresh {w w' : World} {B : Nat} {o : Obj} (h : St W0 olds l w) (hb : Below w.heap.size w w') (hB : w.heap.size ≤ B) (ho : w'.heap[B]? = some o) : St W0 olds ((B, o) :: l) w' := by
  have hg := h.grow hb
  refine ⟨hg.os, hg.tape, hg.output, hg.size, hg.block, fun x hx => ?_, fun x hx hlt => ?_, ?_⟩
  · rcases List.mem_cons.1 hx with rfl | hx
    · exact ho
    · exact hg.own x hx
  · rcases List.mem_cons.1 hx with rfl | hx
    · have := h.size; simp only at hlt; omega
    · exact hg.new x hx hlt
  · simp only [List.map_cons, List.nodup_cons]
    refine ⟨fun hm => ?_, h.nodup⟩
    obtain ⟨x, hx, e⟩ := List.mem_map.1 hm
    have := h.lt (b := x.1) (o := x.2) hx
    omega

/-- A call that hands back something in a new block. -/
def RetNew (w : World) (v : Nat → Value) (o : Nat → Obj) (e : Ending) (w' : World) : Prop := ∃ B, e = .returned (v B) ∧ w.heap.size ≤ B ∧ w'.heap[B]? = some (o B) ∧ Below w.heap.size w w'

theorem CallG.retNew {h : FuncId} {ys : List Value} {v : Nat → Value} {o : Nat → Obj} (hc : ∀ w, St W0 olds l w → Does P h ys w (RetNew w v o))
    (hr : ∀ B, W0.heap.size ≤ B → JE P n ops pl (St W0 olds ((B, o B) :: l)) E Q (updO f dst (v B))) : CallG P n ops pl (St W0 olds l) E Q f i dst h ys := ⟨fun w hS =>
  ⟨fun u w' => ∃ B, u = v B ∧ w.heap.size ≤ B ∧ w'.heap[B]? = some (o B) ∧ Below w.heap.size w w', (hc w hS).mono fun _ _ ⟨B, he, h1, h2, h3⟩ => ⟨v B, he, B, rfl, h1, h2, h3⟩,
    fun _ w' ⟨B, e, h1, h2, h3⟩ => by subst e; exact ⟨pl.grow i w _ h3, (hr B (Nat.le_trans hS.size h1)).run _ (hS.fresh h3 h1 h2)⟩⟩⟩
end

/-! ### Functions -/
section
variable {P : Program} {n : Nat} {f : Fr} {w : World}
def argF : List Value → Fr
  | [], _ => undef
  | v :: _, 0 => v
  | _ :: r, t + 1 => argF r t
theorem argF_eq : ∀ (l : List Value) (t : Nat), argF l t = l.getD t undef
  | [], _ => by simp [argF]
  | v :: _, 0 => by simp [argF]
  | _ :: r, t + 1 => by simp [argF, argF_eq r t]

def fnQ (P : Program) (fn : Func) (n : Nat) (R : Ending → World → Prop) : Post
  | .normal, f, w | .ret, f, w => ∃ v, (∀ a, Rep n a f → (results fn a.tmps).run P w = .ok v w) ∧ R (.returned v) w
  | _, _, _ => False

theorem calls_J {h : FuncId} {fn : Func} {c : Code} {ys : List Value} {R : Ending → World → Prop} (hf : P.funcs[h]? = some fn) (hb : fn.body = some c) (hn : fn.ntmps = n) (hl : Nat.ble ys.length n = true)
    (hj : WP P n c (fnQ P fn n R) (argF ys) w) : Does P h ys w R := by
  refine ⟨?_⟩
  refine calls_of_wp hf hb (wp_mono (hj _ ⟨rfl, ?_, fun t => ?_⟩) ?_)
  · have : ys.length ≤ n := Nat.le_of_ble_eq_true hl
    simp [hn]; omega
  · rw [argF_eq]
    simp only [Array.getD_eq_getD_getElem?, List.size_toArray, Array.getElem?_append, List.getElem?_toArray]
    split
    · simp [List.getD]
    · rename_i h
      rw [List.getD, List.getElem?_eq_none (by omega), Array.getElem?_replicate]
      split <;> rfl
  · rintro e a w' ⟨f', hf', hq⟩
    cases e <;> first | exact hq.elim | (obtain ⟨v, h1, h2⟩ := hq; exact ⟨hf'.defers, v, h1 a hf', h2⟩)

theorem fnQ_tmp {S : World → Prop} {fn : Func} {R : Ending → World → Prop} {t : Tmp} {e : Exit} (he : e = .ret ∨ e = .normal) (hr : fn.results = #[.tmp t]) {v : Value} (hv : f t = v) (h : ∀ w, S w → R (.returned v) w) :
    JX S (fnQ P fn n R) e f := ⟨fun w hw => by
  have : ∃ v, (∀ a, Rep n a f → (results fn a.tmps).run P w = .ok v w) ∧ R (.returned v) w :=
    ⟨v, fun a ha => by rw [results_tmp hr, ha.get, hv], h w hw⟩
  rcases he with rfl | rfl <;> exact this⟩

theorem fnQ_tmp2 {S : World → Prop} {fn : Func} {R : Ending → World → Prop} {t t' : Tmp} {e : Exit} (he : e = .ret ∨ e = .normal) (hr : fn.results = #[.tmp t, .tmp t']) {v v' : Value} (hv : f t = v) (hv' : f t' = v') (h : ∀ w, S w → R (.returned (.tuple #[v, v'])) w) :
    JX S (fnQ P fn n R) e f := ⟨fun w hw => by
  have : ∃ v, (∀ a, Rep n a f → (results fn a.tmps).run P w = .ok v w) ∧ R (.returned v) w :=
    ⟨.tuple #[v, v'], fun a ha => by
      have h1 := ha.get t; have h2 := ha.get t'
      rw [hv] at h1; rw [hv'] at h2
      simp only [Array.getD_eq_getD_getElem?] at h1 h2
      simp [results, hr, h1, h2], h w hw⟩
  rcases he with rfl | rfl <;> exact this⟩

theorem fnQ_tmp3 {S : World → Prop} {fn : Func} {R : Ending → World → Prop} {t1 t2 t3 : Tmp} {e : Exit} (he : e = .ret ∨ e = .normal) (hr : fn.results = #[.tmp t1, .tmp t2, .tmp t3]) {v1 v2 v3 : Value}
    (h1 : f t1 = v1) (h2 : f t2 = v2) (h3 : f t3 = v3) (h : ∀ w, S w → R (.returned (.tuple #[v1, v2, v3])) w) : JX S (fnQ P fn n R) e f := ⟨fun w hw => by
  have : ∃ v, (∀ a, Rep n a f → (results fn a.tmps).run P w = .ok v w) ∧ R (.returned v) w :=
    ⟨.tuple #[v1, v2, v3], fun a ha => by
      have e1 := ha.get t1; have e2 := ha.get t2; have e3 := ha.get t3
      rw [h1] at e1; rw [h2] at e2; rw [h3] at e3
      simp only [Array.getD_eq_getD_getElem?] at e1 e2 e3
      simp [results, hr, e1, e2, e3], h w hw⟩
  rcases he with rfl | rfl <;> exact this⟩

theorem fnQ_tmp4 {S : World → Prop} {fn : Func} {R : Ending → World → Prop} {t1 t2 t3 t4 : Tmp} {e : Exit} (he : e = .ret ∨ e = .normal) (hr : fn.results = #[.tmp t1, .tmp t2, .tmp t3, .tmp t4]) {v1 v2 v3 v4 : Value}
    (h1 : f t1 = v1) (h2 : f t2 = v2) (h3 : f t3 = v3) (h4 : f t4 = v4) (h : ∀ w, S w → R (.returned (.tuple #[v1, v2, v3, v4])) w) : JX S (fnQ P fn n R) e f := ⟨fun w hw => by
  have : ∃ v, (∀ a, Rep n a f → (results fn a.tmps).run P w = .ok v w) ∧ R (.returned v) w :=
    ⟨.tuple #[v1, v2, v3, v4], fun a ha => by
      have e1 := ha.get t1; have e2 := ha.get t2; have e3 := ha.get t3; have e4 := ha.get t4
      rw [h1] at e1; rw [h2] at e2; rw [h3] at e3; rw [h4] at e4
      simp only [Array.getD_eq_getD_getElem?] at e1 e2 e3 e4
      simp [results, hr, e1, e2, e3, e4], h w hw⟩
  rcases he with rfl | rfl <;> exact this⟩

/-- A result that lies in a variable. -/
theorem fnQ_cell {W0 : World} {olds : List Nat} {l : List (Nat × Obj)} {fn : Func} {R : Ending → World → Prop} {t : Tmp} {T T' : TypeId} {m k : Nat} {cs : List Value} [AggT P T m] {e : Exit} (he : e = .ret ∨ e = .normal) (hr : fn.results = #[.cell t T])
    (hv : f t = .pointer (some ⟨k, 0, none⟩)) (hk : In l (k, cel cs T')) (hl : cs.length = m) (h : ∀ w, St W0 olds l w → R (.returned (.agg cs.toArray)) w) : JX (St W0 olds l) (fnQ P fn n R) e f := ⟨fun w hw => by
  have : ∃ v, (∀ a, Rep n a f → (results fn a.tmps).run P w = .ok v w) ∧ R (.returned v) w :=
    ⟨.agg cs.toArray, fun a ha => by
      have e1 := ha.get t
      rw [hv] at e1
      simp only [Array.getD_eq_getD_getElem?] at e1
      have hb := hw.own _ hk.mem
      simp [results, hr, e1, asAddr, run_loadAll (P := P) hb hl], h w hw⟩
  rcases he with rfl | rfl <;> exact this⟩

end
end Go.Proofs.YtnapfiheholhiaaSym
