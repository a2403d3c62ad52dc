/-
  Slots and texts as keys of maps. Conditions: none.
-/
import Derived.Test.YtppidobalfelbaaRow
import Derived.Test.YtppidobalfelbaaMay
namespace Go.Proofs.Ytppidobalfelbaa
open Go Go.RowKit Go.Proofs.YtppidobalfelbaaSym

def vSlot (x : Slot) : Value := .agg (encSlot x).toArray

theorem eq_slot (d : Nat) (x y : Slot) (w : World) : (Op.equalIn (d + 8) 31 (vSlot x) (vSlot y)).run Try.prog w = .ok (decide (x = y)) w := by
  obtain ⟨a, b, c⟩ := x
  obtain ⟨a', b', c'⟩ := y
  unfold vSlot
  rw [run_equalIn_struct w (d + 7) _ _ _ (by rfl) (by kernel_rfl)]
  simp [Program.fieldsOf, Try.underlying31, Op.eqFields, part, Try.isAgg3, encSlot, run_equalIn_int w _ _ _ _ _ _ Try.underlying3]
  by_cases h1 : a = a' <;> by_cases h2 : b = b' <;> by_cases h3 : c = c' <;> simp [h1, h2, h3]

instance : EqT Try.prog 31 vSlot := ⟨eq_slot, by kernel_rfl, fun _ => ⟨_, rfl⟩⟩

theorem check_slot (e : Bool) (m : Nat) (x : Slot) (w : World) : (Instr.checkKey e (m + 2) 31 (vSlot x)).run Try.prog w = .ok () w := by
  simp [Instr.checkKey, vSlot, encSlot, Try.runUnderlying31, Try.runUnderlying3, part, Try.isAgg3]

theorem bits_slot (x : Slot) (m : Nat) : Instr.sameBits (m + 2) (vSlot x) (vSlot x) = true := by
  simp [Instr.sameBits, vSlot, encSlot]

instance : KeyT Try.prog 31 vSlot := key_struct Try.runUnderlying31 (fun e k w => check_slot e 9998 k w) (fun k => bits_slot k 9998)
instance : KeyT Try.prog 9 Value.string := key_string Try.runUnderlying9

end Go.Proofs.Ytppidobalfelbaa
