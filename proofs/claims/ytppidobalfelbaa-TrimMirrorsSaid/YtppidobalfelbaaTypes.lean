/-
  What the calculus asks of this program's types and functions, one row each. Conditions: none.
-/
import Derived.Test.YtppidobalfelbaaOps
import Derived.Test.YtppidobalfelbaaProg
namespace Go.Proofs.Ytppidobalfelbaa
open Go Go.RowKit Go.Proofs.YtppidobalfelbaaSym
instance : Scal Try.prog 2 := ⟨Try.isAgg2, Try.sizeOf2⟩
instance : Scal Try.prog 3 := ⟨Try.isAgg3, Try.sizeOf3⟩
instance : Scal Try.prog 4 := ⟨Try.isAgg4, Try.sizeOf4⟩
instance : Scal Try.prog 9 := ⟨Try.isAgg9, Try.sizeOf9⟩
instance : Scal Try.prog 21 := ⟨Try.isAgg21, Try.sizeOf21⟩
instance : AggT Try.prog 23 9 := ⟨Try.isAgg23, Try.sizeOf23⟩
instance : Scal Try.prog 24 := ⟨Try.isAgg24, Try.sizeOf24⟩
instance : AggT Try.prog 31 3 := ⟨Try.isAgg31, Try.sizeOf31⟩
instance : AggT Try.prog 33 7 := ⟨Try.isAgg33, Try.sizeOf33⟩
instance : AggT Try.prog 42 4 := ⟨Try.isAgg42, Try.sizeOf42⟩
instance : AggT Try.prog 47 2 := ⟨Try.isAgg47, Try.sizeOf47⟩
instance : Scal Try.prog 55 := ⟨Try.isAgg55, Try.sizeOf55⟩
instance : Scal Try.prog 57 := ⟨Try.isAgg57, Try.sizeOf57⟩
instance : Scal Try.prog 59 := ⟨Try.isAgg59, Try.sizeOf59⟩
instance : ZeroT Try.prog 3 (Value.int IntKind.i64 0) := ⟨Try.zeroValue3⟩
instance : ZeroT Try.prog 4 (Value.bool false) := ⟨Try.zeroValue4⟩
instance : ZeroT Try.prog 23 (Value.agg #[(Value.string (⟨#[]⟩ : ByteArray)), (Value.int IntKind.i64 0), (Value.int IntKind.i64 0), (Value.int IntKind.i64 0), (Value.int IntKind.i64 0), (Value.int IntKind.i64 0), (Value.int IntKind.i64 0), (Value.int IntKind.i64 0), (Value.int IntKind.i64 0)]) := ⟨Try.zeroValue23⟩
instance : ZeroT Try.prog 31 (Value.agg #[(Value.int IntKind.i64 0), (Value.int IntKind.i64 0), (Value.int IntKind.i64 0)]) := ⟨Try.zeroValue31⟩
instance : ZeroT Try.prog 33 (Value.agg #[(Value.int IntKind.i64 0), (Value.int IntKind.i64 0), (Value.int IntKind.i64 0), (Value.string (⟨#[]⟩ : ByteArray)), (Value.int IntKind.i64 0), (Value.int IntKind.i64 0), (Value.int IntKind.i64 0)]) := ⟨Try.zeroValue33⟩
instance : ZeroT Try.prog 42 (Value.agg #[(Value.int IntKind.i64 0), (Value.int IntKind.i64 0), (Value.int IntKind.i64 0), (Value.int IntKind.i64 0)]) := ⟨Try.zeroValue42⟩
instance : ZeroT Try.prog 47 (Value.agg #[(Value.string (⟨#[]⟩ : ByteArray)), (Value.int IntKind.i64 0)]) := ⟨Try.zeroValue47⟩
instance : IntT Try.prog 2 .i64 := ⟨Try.runUnderlying2⟩
instance : IntT Try.prog 3 .i64 := ⟨Try.runUnderlying3⟩
instance : BoolT Try.prog 4 := ⟨Try.underlying4⟩
instance : IntT Try.prog 5 .u8 := ⟨Try.runUnderlying5⟩
instance : StrT Try.prog 9 := ⟨Try.runUnderlying9⟩
instance : IntT Try.prog 21 .i32 := ⟨Try.runUnderlying21⟩
instance : SliceT Try.prog 24 33 := ⟨Try.runUnderlying24⟩
instance : IntT Try.prog 34 .i64 := ⟨Try.runUnderlying34⟩
instance : SliceT Try.prog 44 47 := ⟨Try.runUnderlying44⟩
instance : MapT Try.prog 49 31 4 := ⟨Try.runUnderlying49⟩
instance : SliceT Try.prog 57 3 := ⟨Try.runUnderlying57⟩
instance : SizeT Try.prog 2 1 := ⟨Try.sizeOf2⟩
instance : SizeT Try.prog 3 1 := ⟨Try.sizeOf3⟩
instance : SizeT Try.prog 4 1 := ⟨Try.sizeOf4⟩
instance : SizeT Try.prog 5 1 := ⟨Try.sizeOf5⟩
instance : SizeT Try.prog 9 1 := ⟨Try.sizeOf9⟩
instance : SizeT Try.prog 21 1 := ⟨Try.sizeOf21⟩
instance : SizeT Try.prog 23 9 := ⟨Try.sizeOf23⟩
instance : SizeT Try.prog 24 1 := ⟨Try.sizeOf24⟩
instance : SizeT Try.prog 31 3 := ⟨Try.sizeOf31⟩
instance : SizeT Try.prog 33 7 := ⟨Try.sizeOf33⟩
instance : SizeT Try.prog 34 1 := ⟨Try.sizeOf34⟩
instance : SizeT Try.prog 42 4 := ⟨Try.sizeOf42⟩
instance : SizeT Try.prog 44 1 := ⟨Try.sizeOf44⟩
instance : SizeT Try.prog 47 2 := ⟨Try.sizeOf47⟩
instance : SizeT Try.prog 49 1 := ⟨Try.sizeOf49⟩
instance : SizeT Try.prog 55 1 := ⟨Try.sizeOf55⟩
instance : SizeT Try.prog 57 1 := ⟨Try.sizeOf57⟩
instance : SizeT Try.prog 59 1 := ⟨Try.sizeOf59⟩
instance : BuildT Try.prog 23 [(Value.string (⟨#[]⟩ : ByteArray)), (Value.int IntKind.i64 0), (Value.int IntKind.i64 0), (Value.int IntKind.i64 0), (Value.int IntKind.i64 0), (Value.int IntKind.i64 0), (Value.int IntKind.i64 0), (Value.int IntKind.i64 0), (Value.int IntKind.i64 0)] [(0, 1), (1, 1), (2, 1), (3, 1), (4, 1), (5, 1), (6, 1), (7, 1), (8, 1)] := .of Try.runUnderlying23 Try.zeroValue23 (fun w => by simp [Try.sizeOf3, Try.sizeOf9])
instance : BuildT Try.prog 31 [(Value.int IntKind.i64 0), (Value.int IntKind.i64 0), (Value.int IntKind.i64 0)] [(0, 1), (1, 1), (2, 1)] := .of Try.runUnderlying31 Try.zeroValue31 (fun w => by simp [Try.sizeOf3])
instance : BuildT Try.prog 33 [(Value.int IntKind.i64 0), (Value.int IntKind.i64 0), (Value.int IntKind.i64 0), (Value.string (⟨#[]⟩ : ByteArray)), (Value.int IntKind.i64 0), (Value.int IntKind.i64 0), (Value.int IntKind.i64 0)] [(0, 3), (3, 1), (4, 1), (5, 1), (6, 1)] := .of Try.runUnderlying33 Try.zeroValue33 (fun w => by simp [Try.sizeOf3, Try.sizeOf31, Try.sizeOf9])
instance : BuildT Try.prog 42 [(Value.int IntKind.i64 0), (Value.int IntKind.i64 0), (Value.int IntKind.i64 0), (Value.int IntKind.i64 0)] [(0, 1), (1, 1), (2, 1), (3, 1)] := .of Try.runUnderlying42 Try.zeroValue42 (fun w => by simp [Try.sizeOf2])
instance : BuildT Try.prog 47 [(Value.string (⟨#[]⟩ : ByteArray)), (Value.int IntKind.i64 0)] [(0, 1), (1, 1)] := .of Try.runUnderlying47 Try.zeroValue47 (fun w => by simp [Try.sizeOf2, Try.sizeOf9])
instance : FieldT Try.prog 23 0 0 := ⟨fun b o w => by simp [Instr.fieldAt, Instr.sureAddr, fieldPlace, Try.runUnderlying23, Try.sizeOf9, add_eq]⟩
instance : FieldT Try.prog 23 1 1 := ⟨fun b o w => by simp [Instr.fieldAt, Instr.sureAddr, fieldPlace, Try.runUnderlying23, Try.sizeOf3, add_eq]⟩
instance : FieldT Try.prog 23 2 2 := ⟨fun b o w => by simp [Instr.fieldAt, Instr.sureAddr, fieldPlace, Try.runUnderlying23, Try.sizeOf3, add_eq]⟩
instance : FieldT Try.prog 23 3 3 := ⟨fun b o w => by simp [Instr.fieldAt, Instr.sureAddr, fieldPlace, Try.runUnderlying23, Try.sizeOf3, add_eq]⟩
instance : FieldT Try.prog 23 4 4 := ⟨fun b o w => by simp [Instr.fieldAt, Instr.sureAddr, fieldPlace, Try.runUnderlying23, Try.sizeOf3, add_eq]⟩
instance : FieldT Try.prog 23 5 5 := ⟨fun b o w => by simp [Instr.fieldAt, Instr.sureAddr, fieldPlace, Try.runUnderlying23, Try.sizeOf3, add_eq]⟩
instance : FieldT Try.prog 23 6 6 := ⟨fun b o w => by simp [Instr.fieldAt, Instr.sureAddr, fieldPlace, Try.runUnderlying23, Try.sizeOf3, add_eq]⟩
instance : FieldT Try.prog 23 7 7 := ⟨fun b o w => by simp [Instr.fieldAt, Instr.sureAddr, fieldPlace, Try.runUnderlying23, Try.sizeOf3, add_eq]⟩
instance : FieldT Try.prog 23 8 8 := ⟨fun b o w => by simp [Instr.fieldAt, Instr.sureAddr, fieldPlace, Try.runUnderlying23, Try.sizeOf3, add_eq]⟩
instance : FieldT Try.prog 31 0 0 := ⟨fun b o w => by simp [Instr.fieldAt, Instr.sureAddr, fieldPlace, Try.runUnderlying31, Try.sizeOf3, add_eq]⟩
instance : FieldT Try.prog 31 1 1 := ⟨fun b o w => by simp [Instr.fieldAt, Instr.sureAddr, fieldPlace, Try.runUnderlying31, Try.sizeOf3, add_eq]⟩
instance : FieldT Try.prog 31 2 2 := ⟨fun b o w => by simp [Instr.fieldAt, Instr.sureAddr, fieldPlace, Try.runUnderlying31, Try.sizeOf3, add_eq]⟩
instance : FieldT Try.prog 33 0 0 := ⟨fun b o w => by simp [Instr.fieldAt, Instr.sureAddr, fieldPlace, Try.runUnderlying33, Try.sizeOf31, add_eq]⟩
instance : FieldT Try.prog 33 2 4 := ⟨fun b o w => by simp [Instr.fieldAt, Instr.sureAddr, fieldPlace, Try.runUnderlying33, Try.sizeOf3, add_eq]⟩
instance : FieldT Try.prog 42 0 0 := ⟨fun b o w => by simp [Instr.fieldAt, Instr.sureAddr, fieldPlace, Try.runUnderlying42, Try.sizeOf2, add_eq]⟩
instance : FieldT Try.prog 42 1 1 := ⟨fun b o w => by simp [Instr.fieldAt, Instr.sureAddr, fieldPlace, Try.runUnderlying42, Try.sizeOf2, add_eq]⟩
instance : FieldT Try.prog 42 2 2 := ⟨fun b o w => by simp [Instr.fieldAt, Instr.sureAddr, fieldPlace, Try.runUnderlying42, Try.sizeOf2, add_eq]⟩
instance : FieldT Try.prog 42 3 3 := ⟨fun b o w => by simp [Instr.fieldAt, Instr.sureAddr, fieldPlace, Try.runUnderlying42, Try.sizeOf2, add_eq]⟩
instance : FieldT Try.prog 47 0 0 := ⟨fun b o w => by simp [Instr.fieldAt, Instr.sureAddr, fieldPlace, Try.runUnderlying47, Try.sizeOf9, add_eq]⟩
instance : FieldT Try.prog 47 1 1 := ⟨fun b o w => by simp [Instr.fieldAt, Instr.sureAddr, fieldPlace, Try.runUnderlying47, Try.sizeOf2, add_eq]⟩
instance : EntersF Try.prog 3 := ⟨Try.call3⟩
instance : EntersF Try.prog 4 := ⟨Try.call4⟩
instance : EntersF Try.prog 5 := ⟨Try.call5⟩
instance : EntersF Try.prog 6 := ⟨Try.call6⟩
instance : EntersF Try.prog 7 := ⟨Try.call7⟩
instance : EntersF Try.prog 8 := ⟨Try.call8⟩
instance : EntersF Try.prog 9 := ⟨Try.call9⟩
instance : EntersF Try.prog 10 := ⟨Try.call10⟩
instance : EntersF Try.prog 11 := ⟨Try.call11⟩
instance : EntersF Try.prog 12 := ⟨Try.call12⟩
instance : EntersF Try.prog 13 := ⟨Try.call13⟩
instance : EntersF Try.prog 14 := ⟨Try.call14⟩
instance : EntersF Try.prog 15 := ⟨Try.call15⟩
instance : EntersF Try.prog 16 := ⟨Try.call16⟩
instance : EntersF Try.prog 17 := ⟨Try.call17⟩
instance : EntersF Try.prog 18 := ⟨Try.call18⟩
instance : EntersF Try.prog 19 := ⟨Try.call19⟩
instance : EntersF Try.prog 20 := ⟨Try.call20⟩
instance : EntersF Try.prog 21 := ⟨Try.call21⟩
instance : EntersF Try.prog 22 := ⟨Try.call22⟩
instance : EntersF Try.prog 23 := ⟨Try.call23⟩
instance : EntersF Try.prog 24 := ⟨Try.call24⟩
instance : EntersF Try.prog 25 := ⟨Try.call25⟩
instance : EntersF Try.prog 26 := ⟨Try.call26⟩
instance : EntersF Try.prog 27 := ⟨Try.call27⟩
instance : EntersF Try.prog 28 := ⟨Try.call28⟩
instance : EntersF Try.prog 29 := ⟨Try.call29⟩
instance : EntersF Try.prog 30 := ⟨Try.call30⟩
instance : EntersF Try.prog 31 := ⟨Try.call31⟩
instance : EntersF Try.prog 32 := ⟨Try.call32⟩
instance : ElemT Try.prog 24 33 7 64 := ⟨Try.underlying24, ⟨_, _, rfl, rfl, rfl, rfl, rfl, by decide⟩⟩
instance : ElemT Try.prog 44 47 2 24 := ⟨Try.underlying44, ⟨_, _, rfl, rfl, rfl, rfl, rfl, by decide⟩⟩
instance : ElemT Try.prog 57 3 1 8 := ⟨Try.underlying57, ⟨_, _, rfl, rfl, rfl, rfl, rfl, by decide⟩⟩
theorem mixed : Try.prog.follows .mixedOrders = true := by kernel_rfl
end Go.Proofs.Ytppidobalfelbaa
