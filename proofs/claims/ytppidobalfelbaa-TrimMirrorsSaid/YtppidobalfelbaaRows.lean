/-
  No cell of these rows narrows 'for every input' (looked for: loops, veiled, ifaces, maps, wideKeys, modest, calm, conditions, laid).
  DERIVED. THE GIVEN ROWS OF THIS SEAT. 4 by the template 'for every input the law returns true; each argument reads behind the call as it read before'; 0 by the template 'total and deterministic' (their statements: YtppidobalfelbaaTotals.lean).
  GIVEN WITH THE SEED: the statements are not yours to turn. If you find one false, say at which input.
  Laid BY PROGRAM, IN A SANDBOX (cutbox-rows.mjs): the forced cells as the released guide's own fill.sh prints them over the translation 7101003327b1e3b8… (all of the seat's roots in one cut). By AI agents, Wed Nov 11 2026. No macro, syntax, notation, axiom, sorry.
-/
import Derived.Test.YtppidobalfelbaaChecked
import GoSem.Claim
import GoSem.ClaimJoined
import GoSem.ClaimMapViews
import Derived.JoinedTies
import Derived.KernelRfl
namespace Go.Proofs.Ytppidobalfelbaa
/- THE CELL 'sum', in the pinned program and in every row, IS THE sha256 OF THE DUMP (.gsa) THAT YtppidobalfelbaaProg.lean LOADS. Nothing in Lean hashes anything: it is a label: what it is worth is what the hold of that sum in a sandbox is worth. -/
noncomputable def Try.pinned : Pinned := { name := "ytppidobalfelbaa", sum := "7101003327b1e3b8ed4187c858e8e0ac44e7d02144c65329ce307edc0cf8722d", checked := Try.checked }
namespace Rows
def none {H : Type} : Left H := { results := [], args := [] }

/-- 'supercargolaw14.TrimParts': WHATEVER THE INPUT: true; the input reads as it did. -/
def trimPartsSpec : ChangeSpec := { name := "trimParts", fn := fun _ => fun
  | [d1, d2, d3] => { results := [.lit (.bool true)], args := [d1, d2, d3] }
  | _ => none }
def trimPartsRow : OpenClaim := { program := "ytppidobalfelbaa", sum := "7101003327b1e3b8ed4187c858e8e0ac44e7d02144c65329ce307edc0cf8722d", func := "supercargo/supercargolaw14.TrimParts", spec := "trimParts", unfollowed := true, recurses := true, plainKeys := false, apart := false }
def TrimPartsSaid : Prop := trimPartsRow.holds Try.pinned (OpenSpec.ofChange trimPartsSpec)

/-- ITS FALSE NEIGHBOUR: 'it returns false'. Refute it at one input. -/
def trimPartsWrong : ChangeSpec := { name := "trimParts", fn := fun _ => fun
  | [d1, d2, d3] => { results := [.lit (.bool false)], args := [d1, d2, d3] }
  | _ => none }
def TrimPartsWrongFalsely : Prop := trimPartsRow.holds Try.pinned (OpenSpec.ofChange trimPartsWrong)

/-- 'supercargolaw14.TrimUp': WHATEVER THE INPUT: true; the input reads as it did. -/
def trimUpSpec : ChangeSpec := { name := "trimUp", fn := fun _ => fun
  | [d1, d2, d3] => { results := [.lit (.bool true)], args := [d1, d2, d3] }
  | _ => none }
def trimUpRow : OpenClaim := { program := "ytppidobalfelbaa", sum := "7101003327b1e3b8ed4187c858e8e0ac44e7d02144c65329ce307edc0cf8722d", func := "supercargo/supercargolaw14.TrimUp", spec := "trimUp", unfollowed := true, recurses := true, plainKeys := false, apart := false }
def TrimUpSaid : Prop := trimUpRow.holds Try.pinned (OpenSpec.ofChange trimUpSpec)

/-- ITS FALSE NEIGHBOUR: 'it returns false'. Refute it at one input. -/
def trimUpWrong : ChangeSpec := { name := "trimUp", fn := fun _ => fun
  | [d1, d2, d3] => { results := [.lit (.bool false)], args := [d1, d2, d3] }
  | _ => none }
def TrimUpWrongFalsely : Prop := trimUpRow.holds Try.pinned (OpenSpec.ofChange trimUpWrong)

/-- 'supercargolaw14.TrimBalances': WHATEVER THE INPUT: true; the input reads as it did. -/
def trimBalancesSpec : ChangeSpec := { name := "trimBalances", fn := fun _ => fun
  | [d1, d2] => { results := [.lit (.bool true)], args := [d1, d2] }
  | _ => none }
def trimBalancesRow : OpenClaim := { program := "ytppidobalfelbaa", sum := "7101003327b1e3b8ed4187c858e8e0ac44e7d02144c65329ce307edc0cf8722d", func := "supercargo/supercargolaw14.TrimBalances", spec := "trimBalances", unfollowed := true, recurses := true, plainKeys := false, apart := false }
def TrimBalancesSaid : Prop := trimBalancesRow.holds Try.pinned (OpenSpec.ofChange trimBalancesSpec)

/-- ITS FALSE NEIGHBOUR: 'it returns false'. Refute it at one input. -/
def trimBalancesWrong : ChangeSpec := { name := "trimBalances", fn := fun _ => fun
  | [d1, d2] => { results := [.lit (.bool false)], args := [d1, d2] }
  | _ => none }
def TrimBalancesWrongFalsely : Prop := trimBalancesRow.holds Try.pinned (OpenSpec.ofChange trimBalancesWrong)

/-- 'supercargolaw14.TrimMirrors': WHATEVER THE INPUT: true; the input reads as it did. -/
def trimMirrorsSpec : ChangeSpec := { name := "trimMirrors", fn := fun _ => fun
  | [d1, d2, d3] => { results := [.lit (.bool true)], args := [d1, d2, d3] }
  | _ => none }
def trimMirrorsRow : OpenClaim := { program := "ytppidobalfelbaa", sum := "7101003327b1e3b8ed4187c858e8e0ac44e7d02144c65329ce307edc0cf8722d", func := "supercargo/supercargolaw14.TrimMirrors", spec := "trimMirrors", unfollowed := true, recurses := true, plainKeys := false, apart := false }
def TrimMirrorsSaid : Prop := trimMirrorsRow.holds Try.pinned (OpenSpec.ofChange trimMirrorsSpec)

/-- ITS FALSE NEIGHBOUR: 'it returns false'. Refute it at one input. -/
def trimMirrorsWrong : ChangeSpec := { name := "trimMirrors", fn := fun _ => fun
  | [d1, d2, d3] => { results := [.lit (.bool false)], args := [d1, d2, d3] }
  | _ => none }
def TrimMirrorsWrongFalsely : Prop := trimMirrorsRow.holds Try.pinned (OpenSpec.ofChange trimMirrorsWrong)

/- THE SECOND FORM. 'bulk': how many values and letters a reading holds, each counted each time it is reached (what is shared counts as often as it is met; a slice's spare places count too). A statement '..UptoSaid' is the law's where the arguments, and the package variables that the reading takes, are together of bulk at most 1048576: NARROWER than '..Said'. Prove '..Said' where nothing that the law and all that it calls make is longer than what came in: it says more and counts as full. Else prove '..UptoSaid'. A law counts once. -/
mutual
def uptoBulk {H : Type} : DataW H → Nat
  | .lit (.string bytes) => bytes.length + 1
  | .lit _ => 1
  | .nil => 1
  | .ptr d => uptoBulk d + 1
  | .slice elems spare => uptoBulkAll elems + uptoBulkAll spare + 1
  | .agg parts => uptoBulkAll parts + 1
  | .iface _ d => uptoBulk d + 1
  | .map entries => uptoBulkEntries entries + 1
  | .held _ => 1
def uptoBulkAll {H : Type} : List (DataW H) → Nat
  | [] => 0
  | d :: r => uptoBulk d + uptoBulkAll r
def uptoBulkEntries {H : Type} : List (Lit × DataW H) → Nat
  | [] => 0
  | x :: r => uptoBulkEntry x + uptoBulkEntries r
def uptoBulkEntry {H : Type} : Lit × DataW H → Nat
  | (.string bytes, d) => bytes.length + uptoBulk d + 1
  | (_, d) => uptoBulk d + 1
 end
def uptoSmall : (H : Type) → List (DataW H) → Bool := fun _ ds => decide (uptoBulkAll ds ≤ 1048576)
def OpenSpec.upto (s : _root_.Go.ChangeSpec) : _root_.Go.OpenSpec := { _root_.Go.OpenSpec.ofChange s with cond := some uptoSmall }

/-- 'supercargolaw14.TrimParts', WHERE WHAT IT READS IS OF BULK AT MOST 1048576: true; the input reads as it did. -/
def trimPartsUptoRow : OpenClaim := { program := "ytppidobalfelbaa", sum := "7101003327b1e3b8ed4187c858e8e0ac44e7d02144c65329ce307edc0cf8722d", func := "supercargo/supercargolaw14.TrimParts", spec := "trimParts", unfollowed := true, recurses := true, plainKeys := false, apart := false, narrowed := true }
def TrimPartsUptoSaid : Prop := trimPartsUptoRow.holds Try.pinned (OpenSpec.upto trimPartsSpec)

/-- 'supercargolaw14.TrimUp', WHERE WHAT IT READS IS OF BULK AT MOST 1048576: true; the input reads as it did. -/
def trimUpUptoRow : OpenClaim := { program := "ytppidobalfelbaa", sum := "7101003327b1e3b8ed4187c858e8e0ac44e7d02144c65329ce307edc0cf8722d", func := "supercargo/supercargolaw14.TrimUp", spec := "trimUp", unfollowed := true, recurses := true, plainKeys := false, apart := false, narrowed := true }
def TrimUpUptoSaid : Prop := trimUpUptoRow.holds Try.pinned (OpenSpec.upto trimUpSpec)

/-- 'supercargolaw14.TrimBalances', WHERE WHAT IT READS IS OF BULK AT MOST 1048576: true; the input reads as it did. -/
def trimBalancesUptoRow : OpenClaim := { program := "ytppidobalfelbaa", sum := "7101003327b1e3b8ed4187c858e8e0ac44e7d02144c65329ce307edc0cf8722d", func := "supercargo/supercargolaw14.TrimBalances", spec := "trimBalances", unfollowed := true, recurses := true, plainKeys := false, apart := false, narrowed := true }
def TrimBalancesUptoSaid : Prop := trimBalancesUptoRow.holds Try.pinned (OpenSpec.upto trimBalancesSpec)

/-- 'supercargolaw14.TrimMirrors', WHERE WHAT IT READS IS OF BULK AT MOST 1048576: true; the input reads as it did. -/
def trimMirrorsUptoRow : OpenClaim := { program := "ytppidobalfelbaa", sum := "7101003327b1e3b8ed4187c858e8e0ac44e7d02144c65329ce307edc0cf8722d", func := "supercargo/supercargolaw14.TrimMirrors", spec := "trimMirrors", unfollowed := true, recurses := true, plainKeys := false, apart := false, narrowed := true }
def TrimMirrorsUptoSaid : Prop := trimMirrorsUptoRow.holds Try.pinned (OpenSpec.upto trimMirrorsSpec)

end Rows
end Go.Proofs.Ytppidobalfelbaa
