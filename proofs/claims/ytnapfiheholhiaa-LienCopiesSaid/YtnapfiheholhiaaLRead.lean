/-
  Arguments opened to lists of plain records. Conditions: none.
-/
import Derived.Test.YtnapfiheholhiaaLDone
import Derived.Deep.Slices
import Derived.Deep.Fields
import Derived.ChangeSame
import Derived.ProofKit
set_option linter.unusedVariables false
set_option linter.unusedSimpArgs false
namespace Go.Proofs.YtnapfiheholhiaaSym
open Go Go.RowKit Go.ChangeShapes Go.WideShapes Go.Deep

theorem cell?_inv {w : World} {b off : Nat} {v : Value} (h : w.cell? ⟨b, off, none⟩ = some v) : ∃ c T fr, w.heap[b]? = some (.cells c T fr) ∧ c[off]? = some v := by
  unfold World.cell? at h
  split at h
  · rename_i c T fr hb
    exact ⟨c, T, fr, hb, by simpa using h⟩
  · cases h

theorem list_of {α : Type} {p : Nat → α → Prop} : ∀ len, (∀ i, i < len → ∃ x, p i x) → ∃ xs : List α, xs.length = len ∧ ∀ (i : Nat) x, xs[i]? = some x → p i x
  | 0, _ => ⟨[], rfl, by simp⟩
  | len + 1, h => by
    obtain ⟨xs, hl, hx⟩ := list_of len fun i hi => h i (by omega)
    obtain ⟨x, hp⟩ := h len (by omega)
    refine ⟨xs ++ [x], by simp [hl], fun i y hy => ?_⟩
    rw [List.getElem?_append] at hy
    split at hy
    · exact hx i y hy
    · rename_i hi
      have : i = len := by
        by_cases e : i - xs.length = 0
        · omega
        · rw [List.getElem?_eq_none (by simp; omega)] at hy; cases hy
      subst this
      simp [hl] at hy
      rw [← hy]; exact hp

section
variable {H : Type} {ek : TypeId × Value → H} {P : Program} {w : World} {base : Nat} {spare : Nat → Bool} {held : Bool}

theorem open_rows {α : Type} {k : Nat} {enc : α → List Value} {Ok : α → Prop} {t e : TypeId} {fuel : Nat} {cs : List Value} {x : DataW H × List MemPlace} (ht : P.underlying t = some (.slice e)) (hC : P.cellsOf e = k) (hk : ∀ x, (enc x).length = k) (hpos : 0 < k)
    (hdec : ∀ n cs y, DataW.trod ek P w base spare held n e cs = some y → ∃ x, cs = enc x ∧ Ok x) (h : DataW.trod ek P w base spare held fuel t cs = some x) :
    ∃ (a : Option Addr) (xs : List α) (cap : Nat), cs = [.slice a xs.length cap] ∧ xs.length ≤ cap ∧ cap ≤ maxLen ∧ Sl k enc w (.slice a xs.length cap) xs ∧ ∀ x ∈ xs, Ok x := by
  rcases open_slice ht h with ⟨rfl, _⟩ | ⟨a, len, cap, m, n, D, Pl, rfl, hb, hl, hm, hmm, hx, hi⟩
  · exact ⟨none, [], 0, rfl, Nat.le_refl _, Nat.zero_le _, ⟨_, _, rfl, fun h => absurd rfl h⟩, by simp⟩
  · have hlm : len ≤ m := by rw [hmm]; split <;> omega
    obtain ⟨xs, hxl, hxs⟩ := list_of (p := fun i x => Ok x ∧ w.cells? base (a.add (i * k)) k = some (enc x)) len fun i hil => by
      obtain ⟨cs', h1, h2⟩ := hi i (by omega)
      obtain ⟨x, rfl, hok⟩ := hdec _ _ _ h2
      rw [hC] at h1
      exact ⟨x, hok, h1⟩
    subst hxl
    refine ⟨some a, xs, cap, rfl, hl, hm, ⟨_, _, rfl, fun hne => ?_⟩, fun x hx => ?_⟩
    · obtain ⟨b, off, spot⟩ := a
      have hcell : ∀ (i : Nat) x, xs[i]? = some x → ∀ (j : Nat) u, (enc x)[j]? = some u → w.cell? (((⟨b, off, spot⟩ : Addr).add (i * k)).add j) = some u := fun i x hx j u hu => by
        obtain ⟨_, h1⟩ := hxs i x hx
        obtain ⟨_, hcl, hat⟩ := World.cells?_some h1
        have hj : j < k := by rw [← hcl]; exact (List.getElem?_eq_some_iff.1 hu).1
        rw [hat j hj, hu]
      obtain ⟨x0, r, rfl⟩ : ∃ x r, xs = x :: r := by cases xs with | nil => exact absurd rfl hne | cons x r => exact ⟨x, r, rfl⟩
      have h0 : (enc x0)[0]? = some ((enc x0)[0]'(by rw [hk]; exact hpos)) := List.getElem?_eq_getElem _
      have hc0 := hcell 0 x0 rfl 0 _ h0
      have hspot : spot = none := by
        have := World.cell?_spot hc0
        simpa [Addr.add] using this
      subst hspot
      simp only [add_eq] at hcell hc0
      obtain ⟨c, T, fr, hblk, _⟩ := cell?_inv hc0
      exact ⟨b, off, rfl, c, T, fr, hblk, fun i x hx j u hu => by rw [← cell?_block (off := off + i * k + j) hblk]; exact hcell i x hx j u hu⟩
    · obtain ⟨i, hi', rfl⟩ := List.mem_iff_getElem.1 hx
      exact (hxs i _ (List.getElem?_eq_getElem hi')).1
end
end Go.Proofs.YtnapfiheholhiaaSym

namespace Go.Proofs.Ytnapfiheholhiaa
open Go Go.RowKit Go.ChangeShapes Go.WideShapes Go.Deep Go.Proofs.YtnapfiheholhiaaSym
section
variable {H : Type} {ek : TypeId × Value → H} {w : World} {base : Nat} {spare : Nat → Bool} {held : Bool}

def I64 (n : Int) : Prop := -9223372036854775808 ≤ n ∧ n ≤ 9223372036854775807
theorem i64_of_wf {n : Int} (h : (Lit.int .i64 n).wf = true) : I64 n := by
  have e1 : IntKind.i64.min = -9223372036854775808 := rfl
  have e2 : IntKind.i64.max = 9223372036854775807 := rfl
  simp [Lit.wf, e1, e2] at h
  exact h
theorem fld {P : Program} {n : Nat} {cs : List Value} {fs : Array Field} {xs : List (DataW H × List MemPlace)} (hf : ∀ (i : Nat) (f : Field), fs[i]? = some f → DataW.trod ek P w base spare held n f.type ((cs.drop f.offset).take (P.cellsOf f.type)) = xs[i]?)
    (i T o k : Nat) {f : Field} (h1 : fs[i]? = some f) (hT : f.type = T) (ho : f.offset = o) (hk : P.cellsOf T = k) : DataW.trod ek P w base spare held n T ((cs.drop o).take k) = xs[i]? := by
  subst hT ho hk
  exact hf i f h1

set_option maxRecDepth 100000 in
theorem open_deed {n : Nat} {cs : List Value} {y : DataW H × List MemPlace} (h : DataW.trod ek Try.prog w base spare held n 40 cs = some y) :
    ∃ x : Deed, cs = encDeed x ∧ True := by
  obtain ⟨ys, n', _, _, hlen, hyl, hf⟩ := DataW.trod_struct Try.underlying40 h
  have hC : Try.prog.cellsOf 40 = 8 := by kernel_rfl
  have hCs : Try.prog.cellsOf 37 = 6 := by kernel_rfl
  have hCu : Try.prog.cellsOf 5 = 1 := by kernel_rfl
  have hCi : Try.prog.cellsOf 3 = 1 := by kernel_rfl
  have hCl : Try.prog.cellsOf 2 = 1 := by kernel_rfl
  have hCb : Try.prog.cellsOf 4 = 1 := by kernel_rfl
  have hCt : Try.prog.cellsOf 9 = 1 := by kernel_rfl
  rw [hC] at hlen
  match cs, hlen with
  | [c0, c1, c2, c3, c4, c5, c6, c7], _ =>
    match ys, hyl with
    | [y0, y1, y2], _ =>
      have g0 : DataW.trod ek Try.prog w base spare held n' 5 [c0] = some y0 := fld hf 0 5 0 1 rfl rfl rfl hCu
      have g1 : DataW.trod ek Try.prog w base spare held n' 37 [c1, c2, c3, c4, c5, c6] = some y1 := fld hf 1 37 1 6 rfl rfl rfl hCs
      have g2 : DataW.trod ek Try.prog w base spare held n' 2 [c7] = some y2 := fld hf 2 2 7 1 rfl rfl rfl hCl
      obtain ⟨a0, e0, _, _⟩ := DataW.trod_int Try.underlying5 g0
      obtain ⟨a7, e7, _, _⟩ := DataW.trod_int Try.underlying2 g2
      obtain ⟨zs, n2, _, _, hl2, hz2, hf2⟩ := DataW.trod_struct Try.underlying37 g1
      match zs, hz2 with
      | [z0, z1, z2, z3, z4, z5], _ =>
        have k0 : DataW.trod ek Try.prog w base spare held n2 9 [c1] = some z0 := fld hf2 0 9 0 1 rfl rfl rfl hCt
        have k1 : DataW.trod ek Try.prog w base spare held n2 9 [c2] = some z1 := fld hf2 1 9 1 1 rfl rfl rfl hCt
        have k2 : DataW.trod ek Try.prog w base spare held n2 9 [c3] = some z2 := fld hf2 2 9 2 1 rfl rfl rfl hCt
        have k3 : DataW.trod ek Try.prog w base spare held n2 3 [c4] = some z3 := fld hf2 3 3 3 1 rfl rfl rfl hCi
        have k4 : DataW.trod ek Try.prog w base spare held n2 2 [c5] = some z4 := fld hf2 4 2 4 1 rfl rfl rfl hCl
        have k5 : DataW.trod ek Try.prog w base spare held n2 4 [c6] = some z5 := fld hf2 5 4 5 1 rfl rfl rfl hCb
        obtain ⟨s0, f0, _, _⟩ := DataW.trod_string Try.underlying9 k0
        obtain ⟨s1, f1, _, _⟩ := DataW.trod_string Try.underlying9 k1
        obtain ⟨s2, f2, _, _⟩ := DataW.trod_string Try.underlying9 k2
        obtain ⟨b3, f3, _, _⟩ := DataW.trod_int Try.underlying3 k3
        obtain ⟨b4, f4, _, _⟩ := DataW.trod_int Try.underlying2 k4
        obtain ⟨b5, f5, _⟩ := DataW.trod_bool Try.underlying4 k5
        simp only [List.cons.injEq, and_true] at e0 e7 f0 f1 f2 f3 f4 f5
        subst e0 e7 f0 f1 f2 f3 f4 f5
        exact ⟨⟨a0, ⟨s0, s1, s2, b3, b4, b5⟩, a7⟩, rfl, trivial⟩
end
end Go.Proofs.Ytnapfiheholhiaa
