/-
  No cell of these rows narrows 'for every input' (looked for: loops, veiled, ifaces, maps, wideKeys, modest, calm, conditions, laid).
  DERIVED. THE GIVEN ROWS OF THIS SEAT. 7 by the template 'for every input the law returns true; each argument reads behind the call as it read before'; 0 by the template 'total and deterministic' (their statements: YtaaebgdlmhpdkaaTotals.lean).
  GIVEN WITH THE SEED: the statements are not yours to turn. If you find one false, say at which input.
  Laid BY PROGRAM, IN A SANDBOX (cutbox-rows.mjs): the forced cells as the released guide's own fill.sh prints them over the translation 07f48589709477b7… (all of the seat's roots in one cut). By AI agents, Wed Nov 11 2026. No macro, syntax, notation, axiom, sorry.
-/
import Derived.Test.YtaaebgdlmhpdkaaChecked
import GoSem.Claim
import GoSem.ClaimJoined
import GoSem.ClaimMapViews
import Derived.JoinedTies
import Derived.KernelRfl
namespace Go.Proofs.Ytaaebgdlmhpdkaa
/- THE CELL 'sum', in the pinned program and in every row, IS THE sha256 OF THE DUMP (.gsa) THAT YtaaebgdlmhpdkaaProg.lean LOADS. Nothing in Lean hashes anything: it is a label: what it is worth is what the hold of that sum in a sandbox is worth. -/
noncomputable def Try.pinned : Pinned := { name := "ytaaebgdlmhpdkaa", sum := "07f48589709477b7359f1a40e8a00b0957046f547dbf547997f56644fbf6c0a6", checked := Try.checked }
namespace Rows
def none {H : Type} : Left H := { results := [], args := [] }

/-- 'rhytonlaw05.MemKeeps': WHATEVER THE INPUT: true; the input reads as it did. -/
def memKeepsSpec : ChangeSpec := { name := "memKeeps", fn := fun _ => fun
  | [d1, d2, d3] => { results := [.lit (.bool true)], args := [d1, d2, d3] }
  | _ => none }
def memKeepsRow : OpenClaim := { program := "ytaaebgdlmhpdkaa", sum := "07f48589709477b7359f1a40e8a00b0957046f547dbf547997f56644fbf6c0a6", func := "rhyton/rhytonlaw05.MemKeeps", spec := "memKeeps", apart := false }
def MemKeepsSaid : Prop := memKeepsRow.holds Try.pinned (OpenSpec.ofChange memKeepsSpec)

/-- ITS FALSE NEIGHBOUR: 'it returns false'. Refute it at one input. -/
def memKeepsWrong : ChangeSpec := { name := "memKeeps", fn := fun _ => fun
  | [d1, d2, d3] => { results := [.lit (.bool false)], args := [d1, d2, d3] }
  | _ => none }
def MemKeepsWrongFalsely : Prop := memKeepsRow.holds Try.pinned (OpenSpec.ofChange memKeepsWrong)

/-- 'rhytonlaw05.MemBytes': WHATEVER THE INPUT: true; the input reads as it did. -/
def memBytesSpec : ChangeSpec := { name := "memBytes", fn := fun _ => fun
  | [d1, d2, d3] => { results := [.lit (.bool true)], args := [d1, d2, d3] }
  | _ => none }
def memBytesRow : OpenClaim := { program := "ytaaebgdlmhpdkaa", sum := "07f48589709477b7359f1a40e8a00b0957046f547dbf547997f56644fbf6c0a6", func := "rhyton/rhytonlaw05.MemBytes", spec := "memBytes", apart := false }
def MemBytesSaid : Prop := memBytesRow.holds Try.pinned (OpenSpec.ofChange memBytesSpec)

/-- ITS FALSE NEIGHBOUR: 'it returns false'. Refute it at one input. -/
def memBytesWrong : ChangeSpec := { name := "memBytes", fn := fun _ => fun
  | [d1, d2, d3] => { results := [.lit (.bool false)], args := [d1, d2, d3] }
  | _ => none }
def MemBytesWrongFalsely : Prop := memBytesRow.holds Try.pinned (OpenSpec.ofChange memBytesWrong)

/-- 'rhytonlaw05.MemMoves': WHATEVER THE INPUT: true; the input reads as it did. -/
def memMovesSpec : ChangeSpec := { name := "memMoves", fn := fun _ => fun
  | [d1, d2, d3, d4] => { results := [.lit (.bool true)], args := [d1, d2, d3, d4] }
  | _ => none }
def memMovesRow : OpenClaim := { program := "ytaaebgdlmhpdkaa", sum := "07f48589709477b7359f1a40e8a00b0957046f547dbf547997f56644fbf6c0a6", func := "rhyton/rhytonlaw05.MemMoves", spec := "memMoves", apart := false }
def MemMovesSaid : Prop := memMovesRow.holds Try.pinned (OpenSpec.ofChange memMovesSpec)

/-- ITS FALSE NEIGHBOUR: 'it returns false'. Refute it at one input. -/
def memMovesWrong : ChangeSpec := { name := "memMoves", fn := fun _ => fun
  | [d1, d2, d3, d4] => { results := [.lit (.bool false)], args := [d1, d2, d3, d4] }
  | _ => none }
def MemMovesWrongFalsely : Prop := memMovesRow.holds Try.pinned (OpenSpec.ofChange memMovesWrong)

/-- 'rhytonlaw05.MemEnds': WHATEVER THE INPUT: true; the input reads as it did. -/
def memEndsSpec : ChangeSpec := { name := "memEnds", fn := fun _ => fun
  | [d1, d2, d3] => { results := [.lit (.bool true)], args := [d1, d2, d3] }
  | _ => none }
def memEndsRow : OpenClaim := { program := "ytaaebgdlmhpdkaa", sum := "07f48589709477b7359f1a40e8a00b0957046f547dbf547997f56644fbf6c0a6", func := "rhyton/rhytonlaw05.MemEnds", spec := "memEnds", apart := false }
def MemEndsSaid : Prop := memEndsRow.holds Try.pinned (OpenSpec.ofChange memEndsSpec)

/-- ITS FALSE NEIGHBOUR: 'it returns false'. Refute it at one input. -/
def memEndsWrong : ChangeSpec := { name := "memEnds", fn := fun _ => fun
  | [d1, d2, d3] => { results := [.lit (.bool false)], args := [d1, d2, d3] }
  | _ => none }
def MemEndsWrongFalsely : Prop := memEndsRow.holds Try.pinned (OpenSpec.ofChange memEndsWrong)

/-- 'rhytonlaw05.MemGives': WHATEVER THE INPUT: true; the input reads as it did. -/
def memGivesSpec : ChangeSpec := { name := "memGives", fn := fun _ => fun
  | [d] => { results := [.lit (.bool true)], args := [d] }
  | _ => none }
def memGivesRow : OpenClaim := { program := "ytaaebgdlmhpdkaa", sum := "07f48589709477b7359f1a40e8a00b0957046f547dbf547997f56644fbf6c0a6", func := "rhyton/rhytonlaw05.MemGives", spec := "memGives", apart := false }
def MemGivesSaid : Prop := memGivesRow.holds Try.pinned (OpenSpec.ofChange memGivesSpec)

/-- ITS FALSE NEIGHBOUR: 'it returns false'. Refute it at one input. -/
def memGivesWrong : ChangeSpec := { name := "memGives", fn := fun _ => fun
  | [d] => { results := [.lit (.bool false)], args := [d] }
  | _ => none }
def MemGivesWrongFalsely : Prop := memGivesRow.holds Try.pinned (OpenSpec.ofChange memGivesWrong)

/-- 'rhytonlaw05.MemCommas': WHATEVER THE INPUT: true; the input reads as it did. -/
def memCommasSpec : ChangeSpec := { name := "memCommas", fn := fun _ => fun
  | [d1, d2] => { results := [.lit (.bool true)], args := [d1, d2] }
  | _ => none }
def memCommasRow : OpenClaim := { program := "ytaaebgdlmhpdkaa", sum := "07f48589709477b7359f1a40e8a00b0957046f547dbf547997f56644fbf6c0a6", func := "rhyton/rhytonlaw05.MemCommas", spec := "memCommas", apart := false }
def MemCommasSaid : Prop := memCommasRow.holds Try.pinned (OpenSpec.ofChange memCommasSpec)

/-- ITS FALSE NEIGHBOUR: 'it returns false'. Refute it at one input. -/
def memCommasWrong : ChangeSpec := { name := "memCommas", fn := fun _ => fun
  | [d1, d2] => { results := [.lit (.bool false)], args := [d1, d2] }
  | _ => none }
def MemCommasWrongFalsely : Prop := memCommasRow.holds Try.pinned (OpenSpec.ofChange memCommasWrong)

/-- 'rhytonlaw05.MemPlays': WHATEVER THE INPUT: true; the input reads as it did. -/
def memPlaysSpec : ChangeSpec := { name := "memPlays", fn := fun _ => fun
  | [d1, d2] => { results := [.lit (.bool true)], args := [d1, d2] }
  | _ => none }
def memPlaysRow : OpenClaim := { program := "ytaaebgdlmhpdkaa", sum := "07f48589709477b7359f1a40e8a00b0957046f547dbf547997f56644fbf6c0a6", func := "rhyton/rhytonlaw05.MemPlays", spec := "memPlays", apart := false }
def MemPlaysSaid : Prop := memPlaysRow.holds Try.pinned (OpenSpec.ofChange memPlaysSpec)

/-- ITS FALSE NEIGHBOUR: 'it returns false'. Refute it at one input. -/
def memPlaysWrong : ChangeSpec := { name := "memPlays", fn := fun _ => fun
  | [d1, d2] => { results := [.lit (.bool false)], args := [d1, d2] }
  | _ => none }
def MemPlaysWrongFalsely : Prop := memPlaysRow.holds Try.pinned (OpenSpec.ofChange memPlaysWrong)

/- THE SECOND FORM. 'bulk': how many values and letters a reading holds, each counted each time it is reached (what is shared counts as often as it is met; a slice's spare places count too). A statement '..UptoSaid' is the law's where the arguments, and the package variables that the reading takes, are together of bulk at most 1048576: NARROWER than '..Said'. Prove '..Said' where nothing that the law and all that it calls make is longer than what came in: it says more and counts as full. Else prove '..UptoSaid'. A law counts once. -/
mutual
def uptoBulk {H : Type} : DataW H → Nat
  | .lit (.string bytes) => bytes.length + 1
  | .lit _ => 1
  | .nil => 1
  | .ptr d => uptoBulk d + 1
  | .slice elems spare => uptoBulkAll elems + uptoBulkAll spare + 1
  | .agg parts => uptoBulkAll parts + 1
  | .iface _ d => uptoBulk d + 1
  | .map entries => uptoBulkEntries entries + 1
  | .held _ => 1
def uptoBulkAll {H : Type} : List (DataW H) → Nat
  | [] => 0
  | d :: r => uptoBulk d + uptoBulkAll r
def uptoBulkEntries {H : Type} : List (Lit × DataW H) → Nat
  | [] => 0
  | x :: r => uptoBulkEntry x + uptoBulkEntries r
def uptoBulkEntry {H : Type} : Lit × DataW H → Nat
  | (.string bytes, d) => bytes.length + uptoBulk d + 1
  | (_, d) => uptoBulk d + 1
 end
def uptoSmall : (H : Type) → List (DataW H) → Bool := fun _ ds => decide (uptoBulkAll ds ≤ 1048576)
def OpenSpec.upto (s : _root_.Go.ChangeSpec) : _root_.Go.OpenSpec := { _root_.Go.OpenSpec.ofChange s with cond := some uptoSmall }

/-- 'rhytonlaw05.MemKeeps', WHERE WHAT IT READS IS OF BULK AT MOST 1048576: true; the input reads as it did. -/
def memKeepsUptoRow : OpenClaim := { program := "ytaaebgdlmhpdkaa", sum := "07f48589709477b7359f1a40e8a00b0957046f547dbf547997f56644fbf6c0a6", func := "rhyton/rhytonlaw05.MemKeeps", spec := "memKeeps", apart := false, narrowed := true }
def MemKeepsUptoSaid : Prop := memKeepsUptoRow.holds Try.pinned (OpenSpec.upto memKeepsSpec)

/-- 'rhytonlaw05.MemBytes', WHERE WHAT IT READS IS OF BULK AT MOST 1048576: true; the input reads as it did. -/
def memBytesUptoRow : OpenClaim := { program := "ytaaebgdlmhpdkaa", sum := "07f48589709477b7359f1a40e8a00b0957046f547dbf547997f56644fbf6c0a6", func := "rhyton/rhytonlaw05.MemBytes", spec := "memBytes", apart := false, narrowed := true }
def MemBytesUptoSaid : Prop := memBytesUptoRow.holds Try.pinned (OpenSpec.upto memBytesSpec)

/-- 'rhytonlaw05.MemMoves', WHERE WHAT IT READS IS OF BULK AT MOST 1048576: true; the input reads as it did. -/
def memMovesUptoRow : OpenClaim := { program := "ytaaebgdlmhpdkaa", sum := "07f48589709477b7359f1a40e8a00b0957046f547dbf547997f56644fbf6c0a6", func := "rhyton/rhytonlaw05.MemMoves", spec := "memMoves", apart := false, narrowed := true }
def MemMovesUptoSaid : Prop := memMovesUptoRow.holds Try.pinned (OpenSpec.upto memMovesSpec)

/-- 'rhytonlaw05.MemEnds', WHERE WHAT IT READS IS OF BULK AT MOST 1048576: true; the input reads as it did. -/
def memEndsUptoRow : OpenClaim := { program := "ytaaebgdlmhpdkaa", sum := "07f48589709477b7359f1a40e8a00b0957046f547dbf547997f56644fbf6c0a6", func := "rhyton/rhytonlaw05.MemEnds", spec := "memEnds", apart := false, narrowed := true }
def MemEndsUptoSaid : Prop := memEndsUptoRow.holds Try.pinned (OpenSpec.upto memEndsSpec)

/-- 'rhytonlaw05.MemGives', WHERE WHAT IT READS IS OF BULK AT MOST 1048576: true; the input reads as it did. -/
def memGivesUptoRow : OpenClaim := { program := "ytaaebgdlmhpdkaa", sum := "07f48589709477b7359f1a40e8a00b0957046f547dbf547997f56644fbf6c0a6", func := "rhyton/rhytonlaw05.MemGives", spec := "memGives", apart := false, narrowed := true }
def MemGivesUptoSaid : Prop := memGivesUptoRow.holds Try.pinned (OpenSpec.upto memGivesSpec)

/-- 'rhytonlaw05.MemCommas', WHERE WHAT IT READS IS OF BULK AT MOST 1048576: true; the input reads as it did. -/
def memCommasUptoRow : OpenClaim := { program := "ytaaebgdlmhpdkaa", sum := "07f48589709477b7359f1a40e8a00b0957046f547dbf547997f56644fbf6c0a6", func := "rhyton/rhytonlaw05.MemCommas", spec := "memCommas", apart := false, narrowed := true }
def MemCommasUptoSaid : Prop := memCommasUptoRow.holds Try.pinned (OpenSpec.upto memCommasSpec)

/-- 'rhytonlaw05.MemPlays', WHERE WHAT IT READS IS OF BULK AT MOST 1048576: true; the input reads as it did. -/
def memPlaysUptoRow : OpenClaim := { program := "ytaaebgdlmhpdkaa", sum := "07f48589709477b7359f1a40e8a00b0957046f547dbf547997f56644fbf6c0a6", func := "rhyton/rhytonlaw05.MemPlays", spec := "memPlays", apart := false, narrowed := true }
def MemPlaysUptoSaid : Prop := memPlaysUptoRow.holds Try.pinned (OpenSpec.upto memPlaysSpec)

end Rows
end Go.Proofs.Ytaaebgdlmhpdkaa
