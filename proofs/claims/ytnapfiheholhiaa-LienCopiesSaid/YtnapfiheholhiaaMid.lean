/-
  The calculus of this claim: conversions of whole numbers, halves. Conditions: none.
-/
import Derived.Test.YtnapfiheholhiaaOps
import Derived.Laws.Shifts
set_option linter.unusedVariables false
set_option linter.unusedSimpArgs false
namespace Go.Proofs.YtnapfiheholhiaaSym
open Go Go.RowKit

section
variable {P : Program} {n : Nat} {ops : Array Oper} {pl : Plan} {S : World → Prop} {E : List Entry} {Q : Post} {f : Fr} {i : Nat} {dst : Option Tmp} {T : TypeId} {pos : String} {af : Array Edge} {g : Option (Nat × Bool)} {b : Bool}

theorem JE.convI {src dd : TypeId} {k k' : IntKind} {x : Operand} {m : Int} (hw : wantF ops f ⟨dst, .convert src dd x, T, pos, af, g⟩ = true) (hs : P.underlying src = some (.int k)) (hd' : P.underlying dd = some (.int k')) (ha : ev f x = .int k m) (hfit : k'.wrap m = m)
    (hd : dstOk n dst = true) (h : JE P n ops pl S E Q (updO f dst (.int k' m))) : JE P n ops pl S ((i, ⟨dst, .convert src dd x, T, pos, af, g⟩, b) :: E) Q f :=
  .val hw (fun w => by simp [execOp, ha, convert, run_underlying hs, run_underlying hd', Conv.intToInt, hfit]) hd h

theorem JE.shr1 {t t' : TypeId} {x y : Operand} {m : Nat} (hw : wantF ops f ⟨dst, .binOp .shr t x y t', T, pos, af, g⟩ = true) (ha : ev f x = .int .u64 (m : Int)) (hb : ev f y = .int .u64 1)
    (hd : dstOk n dst = true) (h : JE P n ops pl S E Q (updO f dst (.int .u64 ((m / 2 : Nat) : Int)))) : JE P n ops pl S ((i, ⟨dst, .binOp .shr t x y t', T, pos, af, g⟩, b) :: E) Q f :=
  .val hw (fun w => by
    have e : (m : Int).fdiv (2 ^ min 1 IntKind.u64.bits) = ((m / 2 : Nat) : Int) := by
      show (m : Int).fdiv 2 = _
      rw [Int.fdiv_eq_ediv_of_nonneg _ (by omega)]; omega
    simp [execOp, ha, hb, eqGuard, binOp, Op.shift, e]) hd h
theorem u64_id {x : Int} (h : 0 ≤ x ∧ x < 18446744073709551616) : IntKind.u64.wrap x = x := by
  simp only [IntKind.wrap, IntKind.bits, IntKind.signed]
  simp
  omega
end

end Go.Proofs.YtnapfiheholhiaaSym
