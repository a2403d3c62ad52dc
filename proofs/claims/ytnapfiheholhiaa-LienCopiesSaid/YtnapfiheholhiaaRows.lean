/-
  No cell of these rows narrows 'for every input' (looked for: loops, veiled, ifaces, maps, wideKeys, modest, calm, conditions, laid).
  DERIVED. THE GIVEN ROWS OF THIS SEAT. 7 by the template 'for every input the law returns true; each argument reads behind the call as it read before'; 0 by the template 'total and deterministic' (their statements: YtnapfiheholhiaaTotals.lean).
  GIVEN WITH THE SEED: the statements are not yours to turn. If you find one false, say at which input.
  Laid BY PROGRAM, IN A SANDBOX (cutbox-rows.mjs): the forced cells as the released guide's own fill.sh prints them over the translation 6bb05015b8a13642… (all of the seat's roots in one cut). By AI agents, Wed Nov 11 2026. No macro, syntax, notation, axiom, sorry.
-/
import Derived.Test.YtnapfiheholhiaaChecked
import GoSem.Claim
import GoSem.ClaimJoined
import GoSem.ClaimMapViews
import Derived.JoinedTies
import Derived.KernelRfl
namespace Go.Proofs.Ytnapfiheholhiaa
/- THE CELL 'sum', in the pinned program and in every row, IS THE sha256 OF THE DUMP (.gsa) THAT YtnapfiheholhiaaProg.lean LOADS. Nothing in Lean hashes anything: it is a label: what it is worth is what the hold of that sum in a sandbox is worth. -/
noncomputable def Try.pinned : Pinned := { name := "ytnapfiheholhiaa", sum := "6bb05015b8a13642d22039b084e83446a371ce4f15a0e45ec2481a8d94e2090a", checked := Try.checked }
namespace Rows
def none {H : Type} : Left H := { results := [], args := [] }

/-- 'supercargolaw26.LienPays': WHATEVER THE INPUT: true; the input reads as it did. -/
def lienPaysSpec : ChangeSpec := { name := "lienPays", fn := fun _ => fun
  | [d1, d2, d3] => { results := [.lit (.bool true)], args := [d1, d2, d3] }
  | _ => none }
def lienPaysRow : OpenClaim := { program := "ytnapfiheholhiaa", sum := "6bb05015b8a13642d22039b084e83446a371ce4f15a0e45ec2481a8d94e2090a", func := "supercargo/supercargolaw26.LienPays", spec := "lienPays", unfollowed := true, recurses := true, apart := false }
def LienPaysSaid : Prop := lienPaysRow.holds Try.pinned (OpenSpec.ofChange lienPaysSpec)

/-- ITS FALSE NEIGHBOUR: 'it returns false'. Refute it at one input. -/
def lienPaysWrong : ChangeSpec := { name := "lienPays", fn := fun _ => fun
  | [d1, d2, d3] => { results := [.lit (.bool false)], args := [d1, d2, d3] }
  | _ => none }
def LienPaysWrongFalsely : Prop := lienPaysRow.holds Try.pinned (OpenSpec.ofChange lienPaysWrong)

/-- 'supercargolaw26.LienApart': WHATEVER THE INPUT: true; the input reads as it did. -/
def lienApartSpec : ChangeSpec := { name := "lienApart", fn := fun _ => fun
  | [d1, d2] => { results := [.lit (.bool true)], args := [d1, d2] }
  | _ => none }
def lienApartRow : OpenClaim := { program := "ytnapfiheholhiaa", sum := "6bb05015b8a13642d22039b084e83446a371ce4f15a0e45ec2481a8d94e2090a", func := "supercargo/supercargolaw26.LienApart", spec := "lienApart", unfollowed := true, recurses := true, apart := false }
def LienApartSaid : Prop := lienApartRow.holds Try.pinned (OpenSpec.ofChange lienApartSpec)

/-- ITS FALSE NEIGHBOUR: 'it returns false'. Refute it at one input. -/
def lienApartWrong : ChangeSpec := { name := "lienApart", fn := fun _ => fun
  | [d1, d2] => { results := [.lit (.bool false)], args := [d1, d2] }
  | _ => none }
def LienApartWrongFalsely : Prop := lienApartRow.holds Try.pinned (OpenSpec.ofChange lienApartWrong)

/-- 'supercargolaw26.LienReleases': WHATEVER THE INPUT: true; the input reads as it did. -/
def lienReleasesSpec : ChangeSpec := { name := "lienReleases", fn := fun _ => fun
  | [d1, d2, d3] => { results := [.lit (.bool true)], args := [d1, d2, d3] }
  | _ => none }
def lienReleasesRow : OpenClaim := { program := "ytnapfiheholhiaa", sum := "6bb05015b8a13642d22039b084e83446a371ce4f15a0e45ec2481a8d94e2090a", func := "supercargo/supercargolaw26.LienReleases", spec := "lienReleases", unfollowed := true, recurses := true, apart := false }
def LienReleasesSaid : Prop := lienReleasesRow.holds Try.pinned (OpenSpec.ofChange lienReleasesSpec)

/-- ITS FALSE NEIGHBOUR: 'it returns false'. Refute it at one input. -/
def lienReleasesWrong : ChangeSpec := { name := "lienReleases", fn := fun _ => fun
  | [d1, d2, d3] => { results := [.lit (.bool false)], args := [d1, d2, d3] }
  | _ => none }
def LienReleasesWrongFalsely : Prop := lienReleasesRow.holds Try.pinned (OpenSpec.ofChange lienReleasesWrong)

/-- 'supercargolaw26.LienTwice': WHATEVER THE INPUT: true; the input reads as it did. -/
def lienTwiceSpec : ChangeSpec := { name := "lienTwice", fn := fun _ => fun
  | [d1, d2, d3, d4, d5] => { results := [.lit (.bool true)], args := [d1, d2, d3, d4, d5] }
  | _ => none }
def lienTwiceRow : OpenClaim := { program := "ytnapfiheholhiaa", sum := "6bb05015b8a13642d22039b084e83446a371ce4f15a0e45ec2481a8d94e2090a", func := "supercargo/supercargolaw26.LienTwice", spec := "lienTwice", unfollowed := true, recurses := true, apart := false }
def LienTwiceSaid : Prop := lienTwiceRow.holds Try.pinned (OpenSpec.ofChange lienTwiceSpec)

/-- ITS FALSE NEIGHBOUR: 'it returns false'. Refute it at one input. -/
def lienTwiceWrong : ChangeSpec := { name := "lienTwice", fn := fun _ => fun
  | [d1, d2, d3, d4, d5] => { results := [.lit (.bool false)], args := [d1, d2, d3, d4, d5] }
  | _ => none }
def LienTwiceWrongFalsely : Prop := lienTwiceRow.holds Try.pinned (OpenSpec.ofChange lienTwiceWrong)

/-- 'supercargolaw26.LienOnce': WHATEVER THE INPUT: true; the input reads as it did. -/
def lienOnceSpec : ChangeSpec := { name := "lienOnce", fn := fun _ => fun
  | [d] => { results := [.lit (.bool true)], args := [d] }
  | _ => none }
def lienOnceRow : OpenClaim := { program := "ytnapfiheholhiaa", sum := "6bb05015b8a13642d22039b084e83446a371ce4f15a0e45ec2481a8d94e2090a", func := "supercargo/supercargolaw26.LienOnce", spec := "lienOnce", unfollowed := true, recurses := true, apart := false }
def LienOnceSaid : Prop := lienOnceRow.holds Try.pinned (OpenSpec.ofChange lienOnceSpec)

/-- ITS FALSE NEIGHBOUR: 'it returns false'. Refute it at one input. -/
def lienOnceWrong : ChangeSpec := { name := "lienOnce", fn := fun _ => fun
  | [d] => { results := [.lit (.bool false)], args := [d] }
  | _ => none }
def LienOnceWrongFalsely : Prop := lienOnceRow.holds Try.pinned (OpenSpec.ofChange lienOnceWrong)

/-- 'supercargolaw26.LienPlays': WHATEVER THE INPUT: true; the input reads as it did. -/
def lienPlaysSpec : ChangeSpec := { name := "lienPlays", fn := fun _ => fun
  | [d1, d2, d3] => { results := [.lit (.bool true)], args := [d1, d2, d3] }
  | _ => none }
def lienPlaysRow : OpenClaim := { program := "ytnapfiheholhiaa", sum := "6bb05015b8a13642d22039b084e83446a371ce4f15a0e45ec2481a8d94e2090a", func := "supercargo/supercargolaw26.LienPlays", spec := "lienPlays", unfollowed := true, recurses := true, apart := false }
def LienPlaysSaid : Prop := lienPlaysRow.holds Try.pinned (OpenSpec.ofChange lienPlaysSpec)

/-- ITS FALSE NEIGHBOUR: 'it returns false'. Refute it at one input. -/
def lienPlaysWrong : ChangeSpec := { name := "lienPlays", fn := fun _ => fun
  | [d1, d2, d3] => { results := [.lit (.bool false)], args := [d1, d2, d3] }
  | _ => none }
def LienPlaysWrongFalsely : Prop := lienPlaysRow.holds Try.pinned (OpenSpec.ofChange lienPlaysWrong)

/-- 'supercargolaw26.LienCopies': WHATEVER THE INPUT: true; the input reads as it did. -/
def lienCopiesSpec : ChangeSpec := { name := "lienCopies", fn := fun _ => fun
  | [d1, d2, d3, d4] => { results := [.lit (.bool true)], args := [d1, d2, d3, d4] }
  | _ => none }
def lienCopiesRow : OpenClaim := { program := "ytnapfiheholhiaa", sum := "6bb05015b8a13642d22039b084e83446a371ce4f15a0e45ec2481a8d94e2090a", func := "supercargo/supercargolaw26.LienCopies", spec := "lienCopies", unfollowed := true, recurses := true, apart := false }
def LienCopiesSaid : Prop := lienCopiesRow.holds Try.pinned (OpenSpec.ofChange lienCopiesSpec)

/-- ITS FALSE NEIGHBOUR: 'it returns false'. Refute it at one input. -/
def lienCopiesWrong : ChangeSpec := { name := "lienCopies", fn := fun _ => fun
  | [d1, d2, d3, d4] => { results := [.lit (.bool false)], args := [d1, d2, d3, d4] }
  | _ => none }
def LienCopiesWrongFalsely : Prop := lienCopiesRow.holds Try.pinned (OpenSpec.ofChange lienCopiesWrong)

/- THE SECOND FORM. 'bulk': how many values and letters a reading holds, each counted each time it is reached (what is shared counts as often as it is met; a slice's spare places count too). A statement '..UptoSaid' is the law's where the arguments, and the package variables that the reading takes, are together of bulk at most 1048576: NARROWER than '..Said'. Prove '..Said' where nothing that the law and all that it calls make is longer than what came in: it says more and counts as full. Else prove '..UptoSaid'. A law counts once. -/
mutual
def uptoBulk {H : Type} : DataW H → Nat
  | .lit (.string bytes) => bytes.length + 1
  | .lit _ => 1
  | .nil => 1
  | .ptr d => uptoBulk d + 1
  | .slice elems spare => uptoBulkAll elems + uptoBulkAll spare + 1
  | .agg parts => uptoBulkAll parts + 1
  | .iface _ d => uptoBulk d + 1
  | .map entries => uptoBulkEntries entries + 1
  | .held _ => 1
def uptoBulkAll {H : Type} : List (DataW H) → Nat
  | [] => 0
  | d :: r => uptoBulk d + uptoBulkAll r
def uptoBulkEntries {H : Type} : List (Lit × DataW H) → Nat
  | [] => 0
  | x :: r => uptoBulkEntry x + uptoBulkEntries r
def uptoBulkEntry {H : Type} : Lit × DataW H → Nat
  | (.string bytes, d) => bytes.length + uptoBulk d + 1
  | (_, d) => uptoBulk d + 1
 end
def uptoSmall : (H : Type) → List (DataW H) → Bool := fun _ ds => decide (uptoBulkAll ds ≤ 1048576)
def OpenSpec.upto (s : _root_.Go.ChangeSpec) : _root_.Go.OpenSpec := { _root_.Go.OpenSpec.ofChange s with cond := some uptoSmall }

/-- 'supercargolaw26.LienPays', WHERE WHAT IT READS IS OF BULK AT MOST 1048576: true; the input reads as it did. -/
def lienPaysUptoRow : OpenClaim := { program := "ytnapfiheholhiaa", sum := "6bb05015b8a13642d22039b084e83446a371ce4f15a0e45ec2481a8d94e2090a", func := "supercargo/supercargolaw26.LienPays", spec := "lienPays", unfollowed := true, recurses := true, apart := false, narrowed := true }
def LienPaysUptoSaid : Prop := lienPaysUptoRow.holds Try.pinned (OpenSpec.upto lienPaysSpec)

/-- 'supercargolaw26.LienApart', WHERE WHAT IT READS IS OF BULK AT MOST 1048576: true; the input reads as it did. -/
def lienApartUptoRow : OpenClaim := { program := "ytnapfiheholhiaa", sum := "6bb05015b8a13642d22039b084e83446a371ce4f15a0e45ec2481a8d94e2090a", func := "supercargo/supercargolaw26.LienApart", spec := "lienApart", unfollowed := true, recurses := true, apart := false, narrowed := true }
def LienApartUptoSaid : Prop := lienApartUptoRow.holds Try.pinned (OpenSpec.upto lienApartSpec)

/-- 'supercargolaw26.LienReleases', WHERE WHAT IT READS IS OF BULK AT MOST 1048576: true; the input reads as it did. -/
def lienReleasesUptoRow : OpenClaim := { program := "ytnapfiheholhiaa", sum := "6bb05015b8a13642d22039b084e83446a371ce4f15a0e45ec2481a8d94e2090a", func := "supercargo/supercargolaw26.LienReleases", spec := "lienReleases", unfollowed := true, recurses := true, apart := false, narrowed := true }
def LienReleasesUptoSaid : Prop := lienReleasesUptoRow.holds Try.pinned (OpenSpec.upto lienReleasesSpec)

/-- 'supercargolaw26.LienTwice', WHERE WHAT IT READS IS OF BULK AT MOST 1048576: true; the input reads as it did. -/
def lienTwiceUptoRow : OpenClaim := { program := "ytnapfiheholhiaa", sum := "6bb05015b8a13642d22039b084e83446a371ce4f15a0e45ec2481a8d94e2090a", func := "supercargo/supercargolaw26.LienTwice", spec := "lienTwice", unfollowed := true, recurses := true, apart := false, narrowed := true }
def LienTwiceUptoSaid : Prop := lienTwiceUptoRow.holds Try.pinned (OpenSpec.upto lienTwiceSpec)

/-- 'supercargolaw26.LienOnce', WHERE WHAT IT READS IS OF BULK AT MOST 1048576: true; the input reads as it did. -/
def lienOnceUptoRow : OpenClaim := { program := "ytnapfiheholhiaa", sum := "6bb05015b8a13642d22039b084e83446a371ce4f15a0e45ec2481a8d94e2090a", func := "supercargo/supercargolaw26.LienOnce", spec := "lienOnce", unfollowed := true, recurses := true, apart := false, narrowed := true }
def LienOnceUptoSaid : Prop := lienOnceUptoRow.holds Try.pinned (OpenSpec.upto lienOnceSpec)

/-- 'supercargolaw26.LienPlays', WHERE WHAT IT READS IS OF BULK AT MOST 1048576: true; the input reads as it did. -/
def lienPlaysUptoRow : OpenClaim := { program := "ytnapfiheholhiaa", sum := "6bb05015b8a13642d22039b084e83446a371ce4f15a0e45ec2481a8d94e2090a", func := "supercargo/supercargolaw26.LienPlays", spec := "lienPlays", unfollowed := true, recurses := true, apart := false, narrowed := true }
def LienPlaysUptoSaid : Prop := lienPlaysUptoRow.holds Try.pinned (OpenSpec.upto lienPlaysSpec)

/-- 'supercargolaw26.LienCopies', WHERE WHAT IT READS IS OF BULK AT MOST 1048576: true; the input reads as it did. -/
def lienCopiesUptoRow : OpenClaim := { program := "ytnapfiheholhiaa", sum := "6bb05015b8a13642d22039b084e83446a371ce4f15a0e45ec2481a8d94e2090a", func := "supercargo/supercargolaw26.LienCopies", spec := "lienCopies", unfollowed := true, recurses := true, apart := false, narrowed := true }
def LienCopiesUptoSaid : Prop := lienCopiesUptoRow.holds Try.pinned (OpenSpec.upto lienCopiesSpec)

end Rows
end Go.Proofs.Ytnapfiheholhiaa
