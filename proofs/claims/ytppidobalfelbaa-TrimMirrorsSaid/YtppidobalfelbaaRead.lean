/-
  Arguments opened to lists of plain records. Conditions: none.
-/
import Derived.Test.YtppidobalfelbaaMay
import Derived.Test.YtppidobalfelbaaRow
import Derived.Deep.Slices
import Derived.Deep.Fields
import Derived.ChangeSame
import Derived.ProofKit
namespace Go.Proofs.YtppidobalfelbaaSym
open Go Go.RowKit Go.ChangeShapes Go.WideShapes Go.Deep

theorem cell?_inv {w : World} {b off : Nat} {v : Value} (h : w.cell? ⟨b, off, none⟩ = some v) : ∃ c T fr, w.heap[b]? = some (.cells c T fr) ∧ c[off]? = some v := by
  unfold World.cell? at h
  split at h
  · rename_i c T fr hb
    exact ⟨c, T, fr, hb, by simpa using h⟩
  · cases h

theorem list_of {α : Type} {p : Nat → α → Prop} : ∀ len, (∀ i, i < len → ∃ x, p i x) → ∃ xs : List α, xs.length = len ∧ ∀ (i : Nat) x, xs[i]? = some x → p i x
  | 0, _ => ⟨[], rfl, by simp⟩
  | len + 1, h => by
    obtain ⟨xs, hl, hx⟩ := list_of len fun i hi => h i (by omega)
    obtain ⟨x, hp⟩ := h len (by omega)
    refine ⟨xs ++ [x], by simp [hl], fun i y hy => ?_⟩
    rw [List.getElem?_append] at hy
    split at hy
    · exact hx i y hy
    · rename_i hi
      have : i = len := by
        by_cases e : i - xs.length = 0
        · omega
        · rw [List.getElem?_eq_none (by simp; omega)] at hy; cases hy
      subst this
      simp [hl] at hy
      rw [← hy]; exact hp

section
variable {H : Type} {ek : TypeId × Value → H} {P : Program} {w : World} {base : Nat} {spare : Nat → Bool} {held : Bool}

theorem open_rows {α : Type} {k : Nat} {enc : α → List Value} {Ok : α → Prop} {t e : TypeId} {fuel : Nat} {cs : List Value} {x : DataW H × List MemPlace} (ht : P.underlying t = some (.slice e)) (hC : P.cellsOf e = k) (hk : ∀ x, (enc x).length = k) (hpos : 0 < k)
    (hdec : ∀ n cs y, DataW.trod ek P w base spare held n e cs = some y → ∃ x, cs = enc x ∧ Ok x) (h : DataW.trod ek P w base spare held fuel t cs = some x) :
    ∃ (a : Option Addr) (xs : List α) (cap : Nat), cs = [.slice a xs.length cap] ∧ xs.length ≤ cap ∧ cap ≤ maxLen ∧ Sl k enc w (.slice a xs.length cap) xs ∧ ∀ x ∈ xs, Ok x := by
  rcases open_slice ht h with ⟨rfl, _⟩ | ⟨a, len, cap, m, n, D, Pl, rfl, hb, hl, hm, hmm, hx, hi⟩
  · exact ⟨none, [], 0, rfl, Nat.le_refl _, Nat.zero_le _, ⟨_, _, rfl, fun h => absurd rfl h⟩, by simp⟩
  · have hlm : len ≤ m := by rw [hmm]; split <;> omega
    obtain ⟨xs, hxl, hxs⟩ := list_of (p := fun i x => Ok x ∧ w.cells? base (a.add (i * k)) k = some (enc x)) len fun i hil => by
      obtain ⟨cs', h1, h2⟩ := hi i (by omega)
      obtain ⟨x, rfl, hok⟩ := hdec _ _ _ h2
      rw [hC] at h1
      exact ⟨x, hok, h1⟩
    subst hxl
    refine ⟨some a, xs, cap, rfl, hl, hm, ⟨_, _, rfl, fun hne => ?_⟩, fun x hx => ?_⟩
    · obtain ⟨b, off, spot⟩ := a
      have hcell : ∀ (i : Nat) x, xs[i]? = some x → ∀ (j : Nat) u, (enc x)[j]? = some u → w.cell? (((⟨b, off, spot⟩ : Addr).add (i * k)).add j) = some u := fun i x hx j u hu => by
        obtain ⟨_, h1⟩ := hxs i x hx
        obtain ⟨_, hcl, hat⟩ := World.cells?_some h1
        have hj : j < k := by rw [← hcl]; exact (List.getElem?_eq_some_iff.1 hu).1
        rw [hat j hj, hu]
      obtain ⟨x0, r, rfl⟩ : ∃ x r, xs = x :: r := by cases xs with | nil => exact absurd rfl hne | cons x r => exact ⟨x, r, rfl⟩
      have h0 : (enc x0)[0]? = some ((enc x0)[0]'(by rw [hk]; exact hpos)) := List.getElem?_eq_getElem _
      have hc0 := hcell 0 x0 rfl 0 _ h0
      have hspot : spot = none := by
        have := World.cell?_spot hc0
        simpa [Addr.add] using this
      subst hspot
      simp only [add_eq] at hcell hc0
      obtain ⟨c, T, fr, hblk, _⟩ := cell?_inv hc0
      exact ⟨b, off, rfl, c, T, fr, hblk, fun i x hx j u hu => by rw [← cell?_block (off := off + i * k + j) hblk]; exact hcell i x hx j u hu⟩
    · obtain ⟨i, hi', rfl⟩ := List.mem_iff_getElem.1 hx
      exact (hxs i _ (List.getElem?_eq_getElem hi')).1
end
end Go.Proofs.YtppidobalfelbaaSym

namespace Go.Proofs.Ytppidobalfelbaa
open Go Go.RowKit Go.ChangeShapes Go.WideShapes Go.Deep Go.Proofs.YtppidobalfelbaaSym
section
variable {H : Type} {ek : TypeId × Value → H} {w : World} {base : Nat} {spare : Nat → Bool} {held : Bool}

def I64 (n : Int) : Prop := -9223372036854775808 ≤ n ∧ n ≤ 9223372036854775807
theorem i64_of_wf {n : Int} (h : (Lit.int .i64 n).wf = true) : I64 n := by
  have e1 : IntKind.i64.min = -9223372036854775808 := rfl
  have e2 : IntKind.i64.max = 9223372036854775807 := rfl
  simp [Lit.wf, e1, e2] at h
  exact h
theorem fld {P : Program} {n : Nat} {cs : List Value} {fs : Array Field} {xs : List (DataW H × List MemPlace)} (hf : ∀ (i : Nat) (f : Field), fs[i]? = some f → DataW.trod ek P w base spare held n f.type ((cs.drop f.offset).take (P.cellsOf f.type)) = xs[i]?)
    (i T o k : Nat) {f : Field} (h1 : fs[i]? = some f) (hT : f.type = T) (ho : f.offset = o) (hk : P.cellsOf T = k) : DataW.trod ek P w base spare held n T ((cs.drop o).take k) = xs[i]? := by
  subst hT ho hk
  exact hf i f h1

theorem open_load {n : Nat} {cs : List Value} {y : DataW H × List MemPlace} (h : DataW.trod ek Try.prog w base spare held n 33 cs = some y) :
    ∃ x : Load, cs = encLoad x ∧ (I64 x.slot.bay ∧ I64 x.slot.row ∧ I64 x.slot.tier ∧ x.box.size ≤ maxLen ∧ I64 x.weight ∧ I64 x.cls ∧ I64 x.port) := by
  obtain ⟨ys, n', _, _, hlen, hyl, hf⟩ := DataW.trod_struct Try.underlying33 h
  have hC : Try.prog.cellsOf 33 = 7 := by kernel_rfl
  have hCs : Try.prog.cellsOf 31 = 3 := by kernel_rfl
  have hCi : Try.prog.cellsOf 3 = 1 := by kernel_rfl
  have hCt : Try.prog.cellsOf 9 = 1 := by kernel_rfl
  rw [hC] at hlen
  match cs, hlen with
  | [c0, c1, c2, c3, c4, c5, c6], _ =>
    match ys, hyl with
    | [y0, y1, y2, y3, y4], _ =>
      have g0 : DataW.trod ek Try.prog w base spare held n' 31 [c0, c1, c2] = some y0 := fld hf 0 31 0 3 rfl rfl rfl hCs
      have g1 : DataW.trod ek Try.prog w base spare held n' 9 [c3] = some y1 := fld hf 1 9 3 1 rfl rfl rfl hCt
      have g2 : DataW.trod ek Try.prog w base spare held n' 3 [c4] = some y2 := fld hf 2 3 4 1 rfl rfl rfl hCi
      have g3 : DataW.trod ek Try.prog w base spare held n' 3 [c5] = some y3 := fld hf 3 3 5 1 rfl rfl rfl hCi
      have g4 : DataW.trod ek Try.prog w base spare held n' 3 [c6] = some y4 := fld hf 4 3 6 1 rfl rfl rfl hCi
      obtain ⟨s, e1, _, w1⟩ := DataW.trod_string Try.underlying9 g1
      obtain ⟨a2, e2, _, w2⟩ := DataW.trod_int Try.underlying3 g2
      obtain ⟨a3, e3, _, w3⟩ := DataW.trod_int Try.underlying3 g3
      obtain ⟨a4, e4, _, w4⟩ := DataW.trod_int Try.underlying3 g4
      obtain ⟨zs, n2, _, _, hl2, hz2, hf2⟩ := DataW.trod_struct Try.underlying31 g0
      match zs, hz2 with
      | [z0, z1, z2], _ =>
        have k0 : DataW.trod ek Try.prog w base spare held n2 3 [c0] = some z0 := fld hf2 0 3 0 1 rfl rfl rfl hCi
        have k1 : DataW.trod ek Try.prog w base spare held n2 3 [c1] = some z1 := fld hf2 1 3 1 1 rfl rfl rfl hCi
        have k2 : DataW.trod ek Try.prog w base spare held n2 3 [c2] = some z2 := fld hf2 2 3 2 1 rfl rfl rfl hCi
        obtain ⟨b0, f0, _, v0⟩ := DataW.trod_int Try.underlying3 k0
        obtain ⟨b1, f1, _, v1⟩ := DataW.trod_int Try.underlying3 k1
        obtain ⟨b2, f2, _, v2⟩ := DataW.trod_int Try.underlying3 k2
        simp only [List.cons.injEq, and_true] at e1 e2 e3 e4 f0 f1 f2
        subst e1 e2 e3 e4 f0 f1 f2
        exact ⟨⟨⟨b0, b1, b2⟩, s, a2, a3, a4⟩, rfl, i64_of_wf v0, i64_of_wf v1, i64_of_wf v2, w1, i64_of_wf w2, i64_of_wf w3, i64_of_wf w4⟩

theorem open_ship {r : Reach} {b0 : Nat} {v : Value} {d : DataW H} {p : List MemPlace} (hv : Value.okWide Try.prog w r b0 23 v) (h : DataW.Trod ek Try.prog w base spare held 23 v d p) :
    ∃ s : Ship, v = .agg (encShip s).toArray ∧ s.name.size ≤ maxLen ∧ I64 s.bays ∧ I64 s.rows ∧ I64 s.tiers ∧ I64 s.stack ∧ I64 s.trim ∧ I64 s.list ∧ I64 s.up ∧ I64 s.most := by
  obtain ⟨cs, rfl, hsz⟩ := okWide_struct Try.underlying23 hv
  obtain ⟨l⟩ := cs
  obtain ⟨fuel, hf⟩ := h
  have hC : Try.prog.cellsOf 23 = 9 := by kernel_rfl
  have hCi : Try.prog.cellsOf 3 = 1 := by kernel_rfl
  have hCt : Try.prog.cellsOf 9 = 1 := by kernel_rfl
  match l, hsz.trans hC with
  | [c0, c1, c2, c3, c4, c5, c6, c7, c8], _ =>
    obtain ⟨xs, n, _, hx, _, hlen, hg⟩ := DataW.trod_struct Try.underlying23 hf
    match xs, hlen with
    | [y0, y1, y2, y3, y4, y5, y6, y7, y8], _ =>
      have g0 : DataW.trod ek Try.prog w base spare held n 9 [c0] = some y0 := fld hg 0 9 0 1 rfl rfl rfl hCt
      have g1 : DataW.trod ek Try.prog w base spare held n 3 [c1] = some y1 := fld hg 1 3 1 1 rfl rfl rfl hCi
      have g2 : DataW.trod ek Try.prog w base spare held n 3 [c2] = some y2 := fld hg 2 3 2 1 rfl rfl rfl hCi
      have g3 : DataW.trod ek Try.prog w base spare held n 3 [c3] = some y3 := fld hg 3 3 3 1 rfl rfl rfl hCi
      have g4 : DataW.trod ek Try.prog w base spare held n 3 [c4] = some y4 := fld hg 4 3 4 1 rfl rfl rfl hCi
      have g5 : DataW.trod ek Try.prog w base spare held n 3 [c5] = some y5 := fld hg 5 3 5 1 rfl rfl rfl hCi
      have g6 : DataW.trod ek Try.prog w base spare held n 3 [c6] = some y6 := fld hg 6 3 6 1 rfl rfl rfl hCi
      have g7 : DataW.trod ek Try.prog w base spare held n 3 [c7] = some y7 := fld hg 7 3 7 1 rfl rfl rfl hCi
      have g8 : DataW.trod ek Try.prog w base spare held n 3 [c8] = some y8 := fld hg 8 3 8 1 rfl rfl rfl hCi
      obtain ⟨s, e0, _, w0⟩ := DataW.trod_string Try.underlying9 g0
      obtain ⟨a1, e1, _, w1⟩ := DataW.trod_int Try.underlying3 g1
      obtain ⟨a2, e2, _, w2⟩ := DataW.trod_int Try.underlying3 g2
      obtain ⟨a3, e3, _, w3⟩ := DataW.trod_int Try.underlying3 g3
      obtain ⟨a4, e4, _, w4⟩ := DataW.trod_int Try.underlying3 g4
      obtain ⟨a5, e5, _, w5⟩ := DataW.trod_int Try.underlying3 g5
      obtain ⟨a6, e6, _, w6⟩ := DataW.trod_int Try.underlying3 g6
      obtain ⟨a7, e7, _, w7⟩ := DataW.trod_int Try.underlying3 g7
      obtain ⟨a8, e8, _, w8⟩ := DataW.trod_int Try.underlying3 g8
      simp only [List.cons.injEq, and_true] at e0 e1 e2 e3 e4 e5 e6 e7 e8
      subst e0 e1 e2 e3 e4 e5 e6 e7 e8
      exact ⟨⟨s, a1, a2, a3, a4, a5, a6, a7, a8⟩, rfl, w0, i64_of_wf w1, i64_of_wf w2, i64_of_wf w3, i64_of_wf w4, i64_of_wf w5, i64_of_wf w6, i64_of_wf w7, i64_of_wf w8⟩
end
end Go.Proofs.Ytppidobalfelbaa
