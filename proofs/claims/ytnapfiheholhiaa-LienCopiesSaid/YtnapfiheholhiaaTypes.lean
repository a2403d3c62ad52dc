/-
  What the calculus asks of this program's types and functions, one row each. Conditions: none.
-/
import Derived.Test.YtnapfiheholhiaaOps
import Derived.Test.YtnapfiheholhiaaProg
namespace Go.Proofs.Ytnapfiheholhiaa
open Go Go.RowKit Go.Proofs.YtnapfiheholhiaaSym
instance : Scal Try.prog 2 := ⟨Try.isAgg2, Try.sizeOf2⟩
instance : Scal Try.prog 3 := ⟨Try.isAgg3, Try.sizeOf3⟩
instance : Scal Try.prog 4 := ⟨Try.isAgg4, Try.sizeOf4⟩
instance : Scal Try.prog 5 := ⟨Try.isAgg5, Try.sizeOf5⟩
instance : Scal Try.prog 9 := ⟨Try.isAgg9, Try.sizeOf9⟩
instance : Scal Try.prog 22 := ⟨Try.isAgg22, Try.sizeOf22⟩
instance : Scal Try.prog 25 := ⟨Try.isAgg25, Try.sizeOf25⟩
instance : Scal Try.prog 26 := ⟨Try.isAgg26, Try.sizeOf26⟩
instance : Scal Try.prog 30 := ⟨Try.isAgg30, Try.sizeOf30⟩
instance : AggT Try.prog 35 3 := ⟨Try.isAgg35, Try.sizeOf35⟩
instance : AggT Try.prog 37 6 := ⟨Try.isAgg37, Try.sizeOf37⟩
instance : AggT Try.prog 40 8 := ⟨Try.isAgg40, Try.sizeOf40⟩
instance : Scal Try.prog 42 := ⟨Try.isAgg42, Try.sizeOf42⟩
instance : Scal Try.prog 49 := ⟨Try.isAgg49, Try.sizeOf49⟩
instance : Scal Try.prog 58 := ⟨Try.isAgg58, Try.sizeOf58⟩
instance : AggT Try.prog 60 1 := ⟨Try.isAgg60, Try.sizeOf60⟩
instance : Scal Try.prog 65 := ⟨Try.isAgg65, Try.sizeOf65⟩
instance : Scal Try.prog 69 := ⟨Try.isAgg69, Try.sizeOf69⟩
instance : Scal Try.prog 75 := ⟨Try.isAgg75, Try.sizeOf75⟩
instance : Scal Try.prog 88 := ⟨Try.isAgg88, Try.sizeOf88⟩
instance : Scal Try.prog 97 := ⟨Try.isAgg97, Try.sizeOf97⟩
instance : Scal Try.prog 99 := ⟨Try.isAgg99, Try.sizeOf99⟩
instance : Scal Try.prog 109 := ⟨Try.isAgg109, Try.sizeOf109⟩
instance : Scal Try.prog 111 := ⟨Try.isAgg111, Try.sizeOf111⟩
instance : Scal Try.prog 112 := ⟨Try.isAgg112, Try.sizeOf112⟩
instance : Scal Try.prog 116 := ⟨Try.isAgg116, Try.sizeOf116⟩
instance : Scal Try.prog 118 := ⟨Try.isAgg118, Try.sizeOf118⟩
instance : ZeroT Try.prog 2 (Value.int IntKind.i64 0) := ⟨Try.zeroValue2⟩
instance : ZeroT Try.prog 3 (Value.int IntKind.i64 0) := ⟨Try.zeroValue3⟩
instance : ZeroT Try.prog 9 (Value.string (⟨#[]⟩ : ByteArray)) := ⟨Try.zeroValue9⟩
instance : ZeroT Try.prog 26 (Value.slice none 0 0) := ⟨Try.zeroValue26⟩
instance : ZeroT Try.prog 35 (Value.agg #[(Value.string (⟨#[]⟩ : ByteArray)), (Value.string (⟨#[]⟩ : ByteArray)), (Value.int IntKind.i64 0)]) := ⟨Try.zeroValue35⟩
instance : ZeroT Try.prog 37 (Value.agg #[(Value.string (⟨#[]⟩ : ByteArray)), (Value.string (⟨#[]⟩ : ByteArray)), (Value.string (⟨#[]⟩ : ByteArray)), (Value.int IntKind.i64 0), (Value.int IntKind.i64 0), (Value.bool false)]) := ⟨Try.zeroValue37⟩
instance : ZeroT Try.prog 40 (Value.agg #[(Value.int IntKind.u8 0), (Value.string (⟨#[]⟩ : ByteArray)), (Value.string (⟨#[]⟩ : ByteArray)), (Value.string (⟨#[]⟩ : ByteArray)), (Value.int IntKind.i64 0), (Value.int IntKind.i64 0), (Value.bool false), (Value.int IntKind.i64 0)]) := ⟨Try.zeroValue40⟩
instance : ZeroT Try.prog 60 (Value.agg #[(Value.map none)]) := ⟨Try.zeroValue60⟩
instance : ZeroT Try.prog 112 (Value.int IntKind.u64 0) := ⟨Try.zeroValue112⟩
instance : IntT Try.prog 2 .i64 := ⟨Try.runUnderlying2⟩
instance : IntT Try.prog 3 .i64 := ⟨Try.runUnderlying3⟩
instance : BoolT Try.prog 4 := ⟨Try.underlying4⟩
instance : IntT Try.prog 5 .u8 := ⟨Try.runUnderlying5⟩
instance : StrT Try.prog 9 := ⟨Try.runUnderlying9⟩
instance : SliceT Try.prog 22 40 := ⟨Try.runUnderlying22⟩
instance : SliceT Try.prog 26 37 := ⟨Try.runUnderlying26⟩
instance : SliceT Try.prog 30 35 := ⟨Try.runUnderlying30⟩
instance : IntT Try.prog 31 .i64 := ⟨Try.runUnderlying31⟩
instance : SliceT Try.prog 49 9 := ⟨Try.runUnderlying49⟩
instance : MapT Try.prog 58 9 26 := ⟨Try.runUnderlying58⟩
instance : MapT Try.prog 66 9 2 := ⟨Try.runUnderlying66⟩
instance : SliceT Try.prog 88 3 := ⟨Try.runUnderlying88⟩
instance : IntT Try.prog 97 .u64 := ⟨Try.runUnderlying97⟩
instance : IntT Try.prog 101 .i64 := ⟨Try.runUnderlying101⟩
instance : IntT Try.prog 109 .u32 := ⟨Try.runUnderlying109⟩
instance : IntT Try.prog 111 .u64 := ⟨Try.runUnderlying111⟩
instance : IntT Try.prog 112 .u64 := ⟨Try.runUnderlying112⟩
instance : SizeT Try.prog 2 1 := ⟨Try.sizeOf2⟩
instance : SizeT Try.prog 3 1 := ⟨Try.sizeOf3⟩
instance : SizeT Try.prog 4 1 := ⟨Try.sizeOf4⟩
instance : SizeT Try.prog 5 1 := ⟨Try.sizeOf5⟩
instance : SizeT Try.prog 9 1 := ⟨Try.sizeOf9⟩
instance : SizeT Try.prog 22 1 := ⟨Try.sizeOf22⟩
instance : SizeT Try.prog 25 1 := ⟨Try.sizeOf25⟩
instance : SizeT Try.prog 26 1 := ⟨Try.sizeOf26⟩
instance : SizeT Try.prog 30 1 := ⟨Try.sizeOf30⟩
instance : SizeT Try.prog 31 1 := ⟨Try.sizeOf31⟩
instance : SizeT Try.prog 35 3 := ⟨Try.sizeOf35⟩
instance : SizeT Try.prog 37 6 := ⟨Try.sizeOf37⟩
instance : SizeT Try.prog 40 8 := ⟨Try.sizeOf40⟩
instance : SizeT Try.prog 42 1 := ⟨Try.sizeOf42⟩
instance : SizeT Try.prog 49 1 := ⟨Try.sizeOf49⟩
instance : SizeT Try.prog 58 1 := ⟨Try.sizeOf58⟩
instance : SizeT Try.prog 60 1 := ⟨Try.sizeOf60⟩
instance : SizeT Try.prog 65 1 := ⟨Try.sizeOf65⟩
instance : SizeT Try.prog 66 1 := ⟨Try.sizeOf66⟩
instance : SizeT Try.prog 69 1 := ⟨Try.sizeOf69⟩
instance : SizeT Try.prog 75 1 := ⟨Try.sizeOf75⟩
instance : SizeT Try.prog 88 1 := ⟨Try.sizeOf88⟩
instance : SizeT Try.prog 97 1 := ⟨Try.sizeOf97⟩
instance : SizeT Try.prog 99 1 := ⟨Try.sizeOf99⟩
instance : SizeT Try.prog 101 1 := ⟨Try.sizeOf101⟩
instance : SizeT Try.prog 109 1 := ⟨Try.sizeOf109⟩
instance : SizeT Try.prog 111 1 := ⟨Try.sizeOf111⟩
instance : SizeT Try.prog 112 1 := ⟨Try.sizeOf112⟩
instance : SizeT Try.prog 116 1 := ⟨Try.sizeOf116⟩
instance : SizeT Try.prog 118 1 := ⟨Try.sizeOf118⟩
instance : BuildT Try.prog 35 [(Value.string (⟨#[]⟩ : ByteArray)), (Value.string (⟨#[]⟩ : ByteArray)), (Value.int IntKind.i64 0)] [(0, 1), (1, 1), (2, 1)] := .of Try.runUnderlying35 Try.zeroValue35 (fun w => by simp [Try.sizeOf2, Try.sizeOf9])
instance : BuildT Try.prog 37 [(Value.string (⟨#[]⟩ : ByteArray)), (Value.string (⟨#[]⟩ : ByteArray)), (Value.string (⟨#[]⟩ : ByteArray)), (Value.int IntKind.i64 0), (Value.int IntKind.i64 0), (Value.bool false)] [(0, 1), (1, 1), (2, 1), (3, 1), (4, 1), (5, 1)] := .of Try.runUnderlying37 Try.zeroValue37 (fun w => by simp [Try.sizeOf2, Try.sizeOf3, Try.sizeOf4, Try.sizeOf9])
instance : BuildT Try.prog 60 [(Value.map none)] [(0, 1)] := .of Try.runUnderlying60 Try.zeroValue60 (fun w => by simp [Try.sizeOf58])
instance : FieldT Try.prog 35 0 0 := ⟨fun b o w => by simp [Instr.fieldAt, Instr.sureAddr, fieldPlace, Try.runUnderlying35, Try.sizeOf9, add_eq]⟩
instance : FieldT Try.prog 35 1 1 := ⟨fun b o w => by simp [Instr.fieldAt, Instr.sureAddr, fieldPlace, Try.runUnderlying35, Try.sizeOf9, add_eq]⟩
instance : FieldT Try.prog 35 2 2 := ⟨fun b o w => by simp [Instr.fieldAt, Instr.sureAddr, fieldPlace, Try.runUnderlying35, Try.sizeOf2, add_eq]⟩
instance : FieldT Try.prog 37 0 0 := ⟨fun b o w => by simp [Instr.fieldAt, Instr.sureAddr, fieldPlace, Try.runUnderlying37, Try.sizeOf9, add_eq]⟩
instance : FieldT Try.prog 37 1 1 := ⟨fun b o w => by simp [Instr.fieldAt, Instr.sureAddr, fieldPlace, Try.runUnderlying37, Try.sizeOf9, add_eq]⟩
instance : FieldT Try.prog 37 2 2 := ⟨fun b o w => by simp [Instr.fieldAt, Instr.sureAddr, fieldPlace, Try.runUnderlying37, Try.sizeOf9, add_eq]⟩
instance : FieldT Try.prog 37 3 3 := ⟨fun b o w => by simp [Instr.fieldAt, Instr.sureAddr, fieldPlace, Try.runUnderlying37, Try.sizeOf3, add_eq]⟩
instance : FieldT Try.prog 37 4 4 := ⟨fun b o w => by simp [Instr.fieldAt, Instr.sureAddr, fieldPlace, Try.runUnderlying37, Try.sizeOf2, add_eq]⟩
instance : FieldT Try.prog 37 5 5 := ⟨fun b o w => by simp [Instr.fieldAt, Instr.sureAddr, fieldPlace, Try.runUnderlying37, Try.sizeOf4, add_eq]⟩
instance : FieldT Try.prog 40 0 0 := ⟨fun b o w => by simp [Instr.fieldAt, Instr.sureAddr, fieldPlace, Try.runUnderlying40, Try.sizeOf5, add_eq]⟩
instance : FieldT Try.prog 40 1 1 := ⟨fun b o w => by simp [Instr.fieldAt, Instr.sureAddr, fieldPlace, Try.runUnderlying40, Try.sizeOf37, add_eq]⟩
instance : FieldT Try.prog 40 2 7 := ⟨fun b o w => by simp [Instr.fieldAt, Instr.sureAddr, fieldPlace, Try.runUnderlying40, Try.sizeOf2, add_eq]⟩
instance : FieldT Try.prog 60 0 0 := ⟨fun b o w => by simp [Instr.fieldAt, Instr.sureAddr, fieldPlace, Try.runUnderlying60, Try.sizeOf58, add_eq]⟩
instance : EntersF Try.prog 3 := ⟨Try.call3⟩
instance : EntersF Try.prog 4 := ⟨Try.call4⟩
instance : EntersF Try.prog 5 := ⟨Try.call5⟩
instance : EntersF Try.prog 6 := ⟨Try.call6⟩
instance : EntersF Try.prog 7 := ⟨Try.call7⟩
instance : EntersF Try.prog 8 := ⟨Try.call8⟩
instance : EntersF Try.prog 9 := ⟨Try.call9⟩
instance : EntersF Try.prog 10 := ⟨Try.call10⟩
instance : EntersF Try.prog 11 := ⟨Try.call11⟩
instance : EntersF Try.prog 12 := ⟨Try.call12⟩
instance : EntersF Try.prog 13 := ⟨Try.call13⟩
instance : EntersF Try.prog 14 := ⟨Try.call14⟩
instance : EntersF Try.prog 15 := ⟨Try.call15⟩
instance : EntersF Try.prog 16 := ⟨Try.call16⟩
instance : EntersF Try.prog 17 := ⟨Try.call17⟩
instance : EntersF Try.prog 18 := ⟨Try.call18⟩
instance : EntersF Try.prog 19 := ⟨Try.call19⟩
instance : EntersF Try.prog 20 := ⟨Try.call20⟩
instance : EntersF Try.prog 21 := ⟨Try.call21⟩
instance : EntersF Try.prog 22 := ⟨Try.call22⟩
instance : EntersF Try.prog 23 := ⟨Try.call23⟩
instance : EntersF Try.prog 24 := ⟨Try.call24⟩
instance : EntersF Try.prog 25 := ⟨Try.call25⟩
instance : EntersF Try.prog 26 := ⟨Try.call26⟩
instance : EntersF Try.prog 27 := ⟨Try.call27⟩
instance : EntersF Try.prog 28 := ⟨Try.call28⟩
instance : EntersF Try.prog 29 := ⟨Try.call29⟩
instance : EntersF Try.prog 30 := ⟨Try.call30⟩
instance : EntersF Try.prog 31 := ⟨Try.call31⟩
instance : EntersF Try.prog 32 := ⟨Try.call32⟩
instance : EntersF Try.prog 33 := ⟨Try.call33⟩
instance : EntersF Try.prog 34 := ⟨Try.call34⟩
instance : EntersF Try.prog 35 := ⟨Try.call35⟩
instance : EntersF Try.prog 36 := ⟨Try.call36⟩
instance : EntersF Try.prog 37 := ⟨Try.call37⟩
instance : EntersF Try.prog 38 := ⟨Try.call38⟩
instance : EntersF Try.prog 39 := ⟨Try.call39⟩
instance : EntersF Try.prog 40 := ⟨Try.call40⟩
instance : EntersF Try.prog 41 := ⟨Try.call41⟩
instance : EntersF Try.prog 42 := ⟨Try.call42⟩
instance : EntersF Try.prog 43 := ⟨Try.call43⟩
instance : EntersF Try.prog 44 := ⟨Try.call44⟩
instance : EntersF Try.prog 45 := ⟨Try.call45⟩
instance : EntersF Try.prog 46 := ⟨Try.call46⟩
instance : EntersF Try.prog 47 := ⟨Try.call47⟩
instance : EntersF Try.prog 48 := ⟨Try.call48⟩
instance : EntersF Try.prog 49 := ⟨Try.call49⟩
instance : EntersF Try.prog 50 := ⟨Try.call50⟩
instance : EntersF Try.prog 51 := ⟨Try.call51⟩
instance : EntersF Try.prog 52 := ⟨Try.call52⟩
instance : EntersF Try.prog 53 := ⟨Try.call53⟩
instance : EntersF Try.prog 54 := ⟨Try.call54⟩
instance : EntersF Try.prog 55 := ⟨Try.call55⟩
instance : EntersF Try.prog 56 := ⟨Try.call56⟩
instance : EntersF Try.prog 57 := ⟨Try.call57⟩
instance : EntersF Try.prog 58 := ⟨Try.call58⟩
instance : EntersF Try.prog 59 := ⟨Try.call59⟩
instance : EntersF Try.prog 60 := ⟨Try.call60⟩
instance : EntersF Try.prog 61 := ⟨Try.call61⟩
instance : EntersF Try.prog 62 := ⟨Try.call62⟩
instance : EntersF Try.prog 63 := ⟨Try.call63⟩
instance : EntersF Try.prog 64 := ⟨Try.call64⟩
instance : EntersF Try.prog 65 := ⟨Try.call65⟩
instance : EntersF Try.prog 66 := ⟨Try.call66⟩
instance : EntersF Try.prog 67 := ⟨Try.call67⟩
instance : EntersF Try.prog 68 := ⟨Try.call68⟩
instance : EntersF Try.prog 69 := ⟨Try.call69⟩
instance : EntersF Try.prog 70 := ⟨Try.call70⟩
instance : EntersF Try.prog 71 := ⟨Try.call71⟩
instance : EntersF Try.prog 72 := ⟨Try.call72⟩
instance : EntersF Try.prog 73 := ⟨Try.call73⟩
instance : EntersF Try.prog 74 := ⟨Try.call74⟩
instance : EntersF Try.prog 75 := ⟨Try.call75⟩
instance : EntersF Try.prog 76 := ⟨Try.call76⟩
instance : EntersF Try.prog 77 := ⟨Try.call77⟩
instance : EntersF Try.prog 78 := ⟨Try.call78⟩
instance : EntersF Try.prog 79 := ⟨Try.call79⟩
instance : EntersF Try.prog 80 := ⟨Try.call80⟩
instance : EntersF Try.prog 81 := ⟨Try.call81⟩
instance : EntersF Try.prog 82 := ⟨Try.call82⟩
instance : EntersF Try.prog 83 := ⟨Try.call83⟩
instance : EntersF Try.prog 84 := ⟨Try.call84⟩
instance : EntersF Try.prog 85 := ⟨Try.call85⟩
instance : EntersF Try.prog 86 := ⟨Try.call86⟩
instance : EntersF Try.prog 87 := ⟨Try.call87⟩
instance : ElemT Try.prog 22 40 8 88 := ⟨Try.underlying22, ⟨Try.t40, _, by kernel_rfl, rfl, rfl, rfl, rfl, by decide⟩⟩
instance : ElemT Try.prog 26 37 6 72 := ⟨Try.underlying26, ⟨Try.t37, _, by kernel_rfl, rfl, rfl, rfl, rfl, by decide⟩⟩
instance : ElemT Try.prog 30 35 3 40 := ⟨Try.underlying30, ⟨Try.t35, _, by kernel_rfl, rfl, rfl, rfl, rfl, by decide⟩⟩
instance : ElemT Try.prog 49 9 1 16 := ⟨Try.underlying49, ⟨Try.t9, _, by kernel_rfl, rfl, rfl, rfl, rfl, by decide⟩⟩
instance : ElemT Try.prog 88 3 1 8 := ⟨Try.underlying88, ⟨Try.t3, _, by kernel_rfl, rfl, rfl, rfl, rfl, by decide⟩⟩
theorem mixed : Try.prog.follows .mixedOrders = true := by kernel_rfl
end Go.Proofs.Ytnapfiheholhiaa
