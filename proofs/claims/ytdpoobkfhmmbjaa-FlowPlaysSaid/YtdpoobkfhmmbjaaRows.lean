/-
  No cell of these rows narrows 'for every input' (looked for: loops, veiled, ifaces, maps, wideKeys, modest, calm, conditions, laid).
  DERIVED. THE GIVEN ROWS OF THIS SEAT. 7 by the template 'for every input the law returns true; each argument reads behind the call as it read before'; 0 by the template 'total and deterministic' (their statements: YtdpoobkfhmmbjaaTotals.lean).
  GIVEN WITH THE SEED: the statements are not yours to turn. If you find one false, say at which input.
  Laid BY PROGRAM, IN A SANDBOX (cutbox-rows.mjs): the forced cells as the released guide's own fill.sh prints them over the translation 9caa9de1f16805c6… (all of the seat's roots in one cut). By AI agents, Wed Nov 11 2026. No macro, syntax, notation, axiom, sorry.
-/
import Derived.Test.YtdpoobkfhmmbjaaChecked
import GoSem.Claim
import GoSem.ClaimJoined
import GoSem.ClaimMapViews
import Derived.JoinedTies
import Derived.KernelRfl
namespace Go.Proofs.Ytdpoobkfhmmbjaa
/- THE CELL 'sum', in the pinned program and in every row, IS THE sha256 OF THE DUMP (.gsa) THAT YtdpoobkfhmmbjaaProg.lean LOADS. Nothing in Lean hashes anything: it is a label: what it is worth is what the hold of that sum in a sandbox is worth. -/
noncomputable def Try.pinned : Pinned := { name := "ytdpoobkfhmmbjaa", sum := "9caa9de1f16805c64be51d817518a89e35417da4365119b6013fcb6bcd88465c", checked := Try.checked }
namespace Rows
def none {H : Type} : Left H := { results := [], args := [] }

/-- 'rhytonlaw11.FlowPlaces': WHATEVER THE INPUT: true; the input reads as it did. -/
def flowPlacesSpec : ChangeSpec := { name := "flowPlaces", fn := fun _ => fun
  | [d] => { results := [.lit (.bool true)], args := [d] }
  | _ => none }
def flowPlacesRow : OpenClaim := { program := "ytdpoobkfhmmbjaa", sum := "9caa9de1f16805c64be51d817518a89e35417da4365119b6013fcb6bcd88465c", func := "rhyton/rhytonlaw11.FlowPlaces", spec := "flowPlaces", unfollowed := true, recurses := true, apart := false }
def FlowPlacesSaid : Prop := flowPlacesRow.holds Try.pinned (OpenSpec.ofChange flowPlacesSpec)

/-- ITS FALSE NEIGHBOUR: 'it returns false'. Refute it at one input. -/
def flowPlacesWrong : ChangeSpec := { name := "flowPlaces", fn := fun _ => fun
  | [d] => { results := [.lit (.bool false)], args := [d] }
  | _ => none }
def FlowPlacesWrongFalsely : Prop := flowPlacesRow.holds Try.pinned (OpenSpec.ofChange flowPlacesWrong)

/-- 'rhytonlaw11.FlowLeaves': WHATEVER THE INPUT: true; the input reads as it did. -/
def flowLeavesSpec : ChangeSpec := { name := "flowLeaves", fn := fun _ => fun
  | [d1, d2, d3] => { results := [.lit (.bool true)], args := [d1, d2, d3] }
  | _ => none }
def flowLeavesRow : OpenClaim := { program := "ytdpoobkfhmmbjaa", sum := "9caa9de1f16805c64be51d817518a89e35417da4365119b6013fcb6bcd88465c", func := "rhyton/rhytonlaw11.FlowLeaves", spec := "flowLeaves", unfollowed := true, recurses := true, apart := false }
def FlowLeavesSaid : Prop := flowLeavesRow.holds Try.pinned (OpenSpec.ofChange flowLeavesSpec)

/-- ITS FALSE NEIGHBOUR: 'it returns false'. Refute it at one input. -/
def flowLeavesWrong : ChangeSpec := { name := "flowLeaves", fn := fun _ => fun
  | [d1, d2, d3] => { results := [.lit (.bool false)], args := [d1, d2, d3] }
  | _ => none }
def FlowLeavesWrongFalsely : Prop := flowLeavesRow.holds Try.pinned (OpenSpec.ofChange flowLeavesWrong)

/-- 'rhytonlaw11.FlowMay': WHATEVER THE INPUT: true; the input reads as it did. -/
def flowMaySpec : ChangeSpec := { name := "flowMay", fn := fun _ => fun
  | [d] => { results := [.lit (.bool true)], args := [d] }
  | _ => none }
def flowMayRow : OpenClaim := { program := "ytdpoobkfhmmbjaa", sum := "9caa9de1f16805c64be51d817518a89e35417da4365119b6013fcb6bcd88465c", func := "rhyton/rhytonlaw11.FlowMay", spec := "flowMay", unfollowed := true, recurses := true, apart := false }
def FlowMaySaid : Prop := flowMayRow.holds Try.pinned (OpenSpec.ofChange flowMaySpec)

/-- ITS FALSE NEIGHBOUR: 'it returns false'. Refute it at one input. -/
def flowMayWrong : ChangeSpec := { name := "flowMay", fn := fun _ => fun
  | [d] => { results := [.lit (.bool false)], args := [d] }
  | _ => none }
def FlowMayWrongFalsely : Prop := flowMayRow.holds Try.pinned (OpenSpec.ofChange flowMayWrong)

/-- 'rhytonlaw11.FlowPlays': WHATEVER THE INPUT: true; the input reads as it did. -/
def flowPlaysSpec : ChangeSpec := { name := "flowPlays", fn := fun _ => fun
  | [d] => { results := [.lit (.bool true)], args := [d] }
  | _ => none }
def flowPlaysRow : OpenClaim := { program := "ytdpoobkfhmmbjaa", sum := "9caa9de1f16805c64be51d817518a89e35417da4365119b6013fcb6bcd88465c", func := "rhyton/rhytonlaw11.FlowPlays", spec := "flowPlays", unfollowed := true, recurses := true, apart := false }
def FlowPlaysSaid : Prop := flowPlaysRow.holds Try.pinned (OpenSpec.ofChange flowPlaysSpec)

/-- ITS FALSE NEIGHBOUR: 'it returns false'. Refute it at one input. -/
def flowPlaysWrong : ChangeSpec := { name := "flowPlays", fn := fun _ => fun
  | [d] => { results := [.lit (.bool false)], args := [d] }
  | _ => none }
def FlowPlaysWrongFalsely : Prop := flowPlaysRow.holds Try.pinned (OpenSpec.ofChange flowPlaysWrong)

/-- 'rhytonlaw11.FlowBalance': WHATEVER THE INPUT: true; the input reads as it did. -/
def flowBalanceSpec : ChangeSpec := { name := "flowBalance", fn := fun _ => fun
  | [d] => { results := [.lit (.bool true)], args := [d] }
  | _ => none }
def flowBalanceRow : OpenClaim := { program := "ytdpoobkfhmmbjaa", sum := "9caa9de1f16805c64be51d817518a89e35417da4365119b6013fcb6bcd88465c", func := "rhyton/rhytonlaw11.FlowBalance", spec := "flowBalance", unfollowed := true, recurses := true, apart := false }
def FlowBalanceSaid : Prop := flowBalanceRow.holds Try.pinned (OpenSpec.ofChange flowBalanceSpec)

/-- ITS FALSE NEIGHBOUR: 'it returns false'. Refute it at one input. -/
def flowBalanceWrong : ChangeSpec := { name := "flowBalance", fn := fun _ => fun
  | [d] => { results := [.lit (.bool false)], args := [d] }
  | _ => none }
def FlowBalanceWrongFalsely : Prop := flowBalanceRow.holds Try.pinned (OpenSpec.ofChange flowBalanceWrong)

/-- 'rhytonlaw11.FlowBounds': WHATEVER THE INPUT: true; the input reads as it did. -/
def flowBoundsSpec : ChangeSpec := { name := "flowBounds", fn := fun _ => fun
  | [d1, d2] => { results := [.lit (.bool true)], args := [d1, d2] }
  | _ => none }
def flowBoundsRow : OpenClaim := { program := "ytdpoobkfhmmbjaa", sum := "9caa9de1f16805c64be51d817518a89e35417da4365119b6013fcb6bcd88465c", func := "rhyton/rhytonlaw11.FlowBounds", spec := "flowBounds", unfollowed := true, recurses := true, apart := false }
def FlowBoundsSaid : Prop := flowBoundsRow.holds Try.pinned (OpenSpec.ofChange flowBoundsSpec)

/-- ITS FALSE NEIGHBOUR: 'it returns false'. Refute it at one input. -/
def flowBoundsWrong : ChangeSpec := { name := "flowBounds", fn := fun _ => fun
  | [d1, d2] => { results := [.lit (.bool false)], args := [d1, d2] }
  | _ => none }
def FlowBoundsWrongFalsely : Prop := flowBoundsRow.holds Try.pinned (OpenSpec.ofChange flowBoundsWrong)

/-- 'rhytonlaw11.FlowNests': WHATEVER THE INPUT: true; the input reads as it did. -/
def flowNestsSpec : ChangeSpec := { name := "flowNests", fn := fun _ => fun
  | [d1, d2] => { results := [.lit (.bool true)], args := [d1, d2] }
  | _ => none }
def flowNestsRow : OpenClaim := { program := "ytdpoobkfhmmbjaa", sum := "9caa9de1f16805c64be51d817518a89e35417da4365119b6013fcb6bcd88465c", func := "rhyton/rhytonlaw11.FlowNests", spec := "flowNests", unfollowed := true, recurses := true, apart := false }
def FlowNestsSaid : Prop := flowNestsRow.holds Try.pinned (OpenSpec.ofChange flowNestsSpec)

/-- ITS FALSE NEIGHBOUR: 'it returns false'. Refute it at one input. -/
def flowNestsWrong : ChangeSpec := { name := "flowNests", fn := fun _ => fun
  | [d1, d2] => { results := [.lit (.bool false)], args := [d1, d2] }
  | _ => none }
def FlowNestsWrongFalsely : Prop := flowNestsRow.holds Try.pinned (OpenSpec.ofChange flowNestsWrong)

/- THE SECOND FORM. 'bulk': how many values and letters a reading holds, each counted each time it is reached (what is shared counts as often as it is met; a slice's spare places count too). A statement '..UptoSaid' is the law's where the arguments, and the package variables that the reading takes, are together of bulk at most 1048576: NARROWER than '..Said'. Prove '..Said' where nothing that the law and all that it calls make is longer than what came in: it says more and counts as full. Else prove '..UptoSaid'. A law counts once. -/
mutual
def uptoBulk {H : Type} : DataW H → Nat
  | .lit (.string bytes) => bytes.length + 1
  | .lit _ => 1
  | .nil => 1
  | .ptr d => uptoBulk d + 1
  | .slice elems spare => uptoBulkAll elems + uptoBulkAll spare + 1
  | .agg parts => uptoBulkAll parts + 1
  | .iface _ d => uptoBulk d + 1
  | .map entries => uptoBulkEntries entries + 1
  | .held _ => 1
def uptoBulkAll {H : Type} : List (DataW H) → Nat
  | [] => 0
  | d :: r => uptoBulk d + uptoBulkAll r
def uptoBulkEntries {H : Type} : List (Lit × DataW H) → Nat
  | [] => 0
  | x :: r => uptoBulkEntry x + uptoBulkEntries r
def uptoBulkEntry {H : Type} : Lit × DataW H → Nat
  | (.string bytes, d) => bytes.length + uptoBulk d + 1
  | (_, d) => uptoBulk d + 1
 end
def uptoSmall : (H : Type) → List (DataW H) → Bool := fun _ ds => decide (uptoBulkAll ds ≤ 1048576)
def OpenSpec.upto (s : _root_.Go.ChangeSpec) : _root_.Go.OpenSpec := { _root_.Go.OpenSpec.ofChange s with cond := some uptoSmall }

/-- 'rhytonlaw11.FlowPlaces', WHERE WHAT IT READS IS OF BULK AT MOST 1048576: true; the input reads as it did. -/
def flowPlacesUptoRow : OpenClaim := { program := "ytdpoobkfhmmbjaa", sum := "9caa9de1f16805c64be51d817518a89e35417da4365119b6013fcb6bcd88465c", func := "rhyton/rhytonlaw11.FlowPlaces", spec := "flowPlaces", unfollowed := true, recurses := true, apart := false, narrowed := true }
def FlowPlacesUptoSaid : Prop := flowPlacesUptoRow.holds Try.pinned (OpenSpec.upto flowPlacesSpec)

/-- 'rhytonlaw11.FlowLeaves', WHERE WHAT IT READS IS OF BULK AT MOST 1048576: true; the input reads as it did. -/
def flowLeavesUptoRow : OpenClaim := { program := "ytdpoobkfhmmbjaa", sum := "9caa9de1f16805c64be51d817518a89e35417da4365119b6013fcb6bcd88465c", func := "rhyton/rhytonlaw11.FlowLeaves", spec := "flowLeaves", unfollowed := true, recurses := true, apart := false, narrowed := true }
def FlowLeavesUptoSaid : Prop := flowLeavesUptoRow.holds Try.pinned (OpenSpec.upto flowLeavesSpec)

/-- 'rhytonlaw11.FlowMay', WHERE WHAT IT READS IS OF BULK AT MOST 1048576: true; the input reads as it did. -/
def flowMayUptoRow : OpenClaim := { program := "ytdpoobkfhmmbjaa", sum := "9caa9de1f16805c64be51d817518a89e35417da4365119b6013fcb6bcd88465c", func := "rhyton/rhytonlaw11.FlowMay", spec := "flowMay", unfollowed := true, recurses := true, apart := false, narrowed := true }
def FlowMayUptoSaid : Prop := flowMayUptoRow.holds Try.pinned (OpenSpec.upto flowMaySpec)

/-- 'rhytonlaw11.FlowPlays', WHERE WHAT IT READS IS OF BULK AT MOST 1048576: true; the input reads as it did. -/
def flowPlaysUptoRow : OpenClaim := { program := "ytdpoobkfhmmbjaa", sum := "9caa9de1f16805c64be51d817518a89e35417da4365119b6013fcb6bcd88465c", func := "rhyton/rhytonlaw11.FlowPlays", spec := "flowPlays", unfollowed := true, recurses := true, apart := false, narrowed := true }
def FlowPlaysUptoSaid : Prop := flowPlaysUptoRow.holds Try.pinned (OpenSpec.upto flowPlaysSpec)

/-- 'rhytonlaw11.FlowBalance', WHERE WHAT IT READS IS OF BULK AT MOST 1048576: true; the input reads as it did. -/
def flowBalanceUptoRow : OpenClaim := { program := "ytdpoobkfhmmbjaa", sum := "9caa9de1f16805c64be51d817518a89e35417da4365119b6013fcb6bcd88465c", func := "rhyton/rhytonlaw11.FlowBalance", spec := "flowBalance", unfollowed := true, recurses := true, apart := false, narrowed := true }
def FlowBalanceUptoSaid : Prop := flowBalanceUptoRow.holds Try.pinned (OpenSpec.upto flowBalanceSpec)

/-- 'rhytonlaw11.FlowBounds', WHERE WHAT IT READS IS OF BULK AT MOST 1048576: true; the input reads as it did. -/
def flowBoundsUptoRow : OpenClaim := { program := "ytdpoobkfhmmbjaa", sum := "9caa9de1f16805c64be51d817518a89e35417da4365119b6013fcb6bcd88465c", func := "rhyton/rhytonlaw11.FlowBounds", spec := "flowBounds", unfollowed := true, recurses := true, apart := false, narrowed := true }
def FlowBoundsUptoSaid : Prop := flowBoundsUptoRow.holds Try.pinned (OpenSpec.upto flowBoundsSpec)

/-- 'rhytonlaw11.FlowNests', WHERE WHAT IT READS IS OF BULK AT MOST 1048576: true; the input reads as it did. -/
def flowNestsUptoRow : OpenClaim := { program := "ytdpoobkfhmmbjaa", sum := "9caa9de1f16805c64be51d817518a89e35417da4365119b6013fcb6bcd88465c", func := "rhyton/rhytonlaw11.FlowNests", spec := "flowNests", unfollowed := true, recurses := true, apart := false, narrowed := true }
def FlowNestsUptoSaid : Prop := flowNestsUptoRow.holds Try.pinned (OpenSpec.upto flowNestsSpec)

end Rows
end Go.Proofs.Ytdpoobkfhmmbjaa
