/-
  No cell of these rows narrows 'for every input' (looked for: loops, veiled, ifaces, maps, wideKeys, modest, calm, conditions, laid).
  DERIVED. THE GIVEN ROWS OF THIS SEAT. 7 by the template 'for every input the law returns true; each argument reads behind the call as it read before'; 0 by the template 'total and deterministic' (their statements: YtbapimbjgfplhaaTotals.lean).
  GIVEN WITH THE SEED: the statements are not yours to turn. If you find one false, say at which input.
  Laid BY PROGRAM, IN A SANDBOX (cutbox-rows.mjs): the forced cells as the released guide's own fill.sh prints them over the translation 870523b2c89bdfcc… (all of the seat's roots in one cut). By AI agents, Wed Nov 11 2026. No macro, syntax, notation, axiom, sorry.
-/
import Derived.Test.YtbapimbjgfplhaaChecked
import GoSem.Claim
import GoSem.ClaimJoined
import GoSem.ClaimMapViews
import Derived.JoinedTies
import Derived.KernelRfl
namespace Go.Proofs.Ytbapimbjgfplhaa
/- THE CELL 'sum', in the pinned program and in every row, IS THE sha256 OF THE DUMP (.gsa) THAT YtbapimbjgfplhaaProg.lean LOADS. Nothing in Lean hashes anything: it is a label: what it is worth is what the hold of that sum in a sandbox is worth. -/
noncomputable def Try.pinned : Pinned := { name := "ytbapimbjgfplhaa", sum := "870523b2c89bdfcc7e5ed469af3f891908b34fd7205a1ba4554752955d17e764", checked := Try.checked }
namespace Rows
def none {H : Type} : Left H := { results := [], args := [] }

/-- 'rhytonlaw01.CellDivides': WHATEVER THE INPUT: true; the input reads as it did. -/
def cellDividesSpec : ChangeSpec := { name := "cellDivides", fn := fun _ => fun
  | [d1, d2] => { results := [.lit (.bool true)], args := [d1, d2] }
  | _ => none }
def cellDividesRow : OpenClaim := { program := "ytbapimbjgfplhaa", sum := "870523b2c89bdfcc7e5ed469af3f891908b34fd7205a1ba4554752955d17e764", func := "rhyton/rhytonlaw01.CellDivides", spec := "cellDivides", unfollowed := true, recurses := true, apart := false }
def CellDividesSaid : Prop := cellDividesRow.holds Try.pinned (OpenSpec.ofChange cellDividesSpec)

/-- ITS FALSE NEIGHBOUR: 'it returns false'. Refute it at one input. -/
def cellDividesWrong : ChangeSpec := { name := "cellDivides", fn := fun _ => fun
  | [d1, d2] => { results := [.lit (.bool false)], args := [d1, d2] }
  | _ => none }
def CellDividesWrongFalsely : Prop := cellDividesRow.holds Try.pinned (OpenSpec.ofChange cellDividesWrong)

/-- 'rhytonlaw01.CellOrders': WHATEVER THE INPUT: true; the input reads as it did. -/
def cellOrdersSpec : ChangeSpec := { name := "cellOrders", fn := fun _ => fun
  | [d1, d2] => { results := [.lit (.bool true)], args := [d1, d2] }
  | _ => none }
def cellOrdersRow : OpenClaim := { program := "ytbapimbjgfplhaa", sum := "870523b2c89bdfcc7e5ed469af3f891908b34fd7205a1ba4554752955d17e764", func := "rhyton/rhytonlaw01.CellOrders", spec := "cellOrders", unfollowed := true, recurses := true, apart := false }
def CellOrdersSaid : Prop := cellOrdersRow.holds Try.pinned (OpenSpec.ofChange cellOrdersSpec)

/-- ITS FALSE NEIGHBOUR: 'it returns false'. Refute it at one input. -/
def cellOrdersWrong : ChangeSpec := { name := "cellOrders", fn := fun _ => fun
  | [d1, d2] => { results := [.lit (.bool false)], args := [d1, d2] }
  | _ => none }
def CellOrdersWrongFalsely : Prop := cellOrdersRow.holds Try.pinned (OpenSpec.ofChange cellOrdersWrong)

/-- 'rhytonlaw01.CellCarries': WHATEVER THE INPUT: true; the input reads as it did. -/
def cellCarriesSpec : ChangeSpec := { name := "cellCarries", fn := fun _ => fun
  | [d1, d2, d3] => { results := [.lit (.bool true)], args := [d1, d2, d3] }
  | _ => none }
def cellCarriesRow : OpenClaim := { program := "ytbapimbjgfplhaa", sum := "870523b2c89bdfcc7e5ed469af3f891908b34fd7205a1ba4554752955d17e764", func := "rhyton/rhytonlaw01.CellCarries", spec := "cellCarries", unfollowed := true, recurses := true, apart := false }
def CellCarriesSaid : Prop := cellCarriesRow.holds Try.pinned (OpenSpec.ofChange cellCarriesSpec)

/-- ITS FALSE NEIGHBOUR: 'it returns false'. Refute it at one input. -/
def cellCarriesWrong : ChangeSpec := { name := "cellCarries", fn := fun _ => fun
  | [d1, d2, d3] => { results := [.lit (.bool false)], args := [d1, d2, d3] }
  | _ => none }
def CellCarriesWrongFalsely : Prop := cellCarriesRow.holds Try.pinned (OpenSpec.ofChange cellCarriesWrong)

/-- 'rhytonlaw01.CellLogic': WHATEVER THE INPUT: true; the input reads as it did. -/
def cellLogicSpec : ChangeSpec := { name := "cellLogic", fn := fun _ => fun
  | [d1, d2, d3] => { results := [.lit (.bool true)], args := [d1, d2, d3] }
  | _ => none }
def cellLogicRow : OpenClaim := { program := "ytbapimbjgfplhaa", sum := "870523b2c89bdfcc7e5ed469af3f891908b34fd7205a1ba4554752955d17e764", func := "rhyton/rhytonlaw01.CellLogic", spec := "cellLogic", unfollowed := true, recurses := true, apart := false }
def CellLogicSaid : Prop := cellLogicRow.holds Try.pinned (OpenSpec.ofChange cellLogicSpec)

/-- ITS FALSE NEIGHBOUR: 'it returns false'. Refute it at one input. -/
def cellLogicWrong : ChangeSpec := { name := "cellLogic", fn := fun _ => fun
  | [d1, d2, d3] => { results := [.lit (.bool false)], args := [d1, d2, d3] }
  | _ => none }
def CellLogicWrongFalsely : Prop := cellLogicRow.holds Try.pinned (OpenSpec.ofChange cellLogicWrong)

/-- 'rhytonlaw01.CellShifts': WHATEVER THE INPUT: true; the input reads as it did. -/
def cellShiftsSpec : ChangeSpec := { name := "cellShifts", fn := fun _ => fun
  | [d1, d2, d3, d4] => { results := [.lit (.bool true)], args := [d1, d2, d3, d4] }
  | _ => none }
def cellShiftsRow : OpenClaim := { program := "ytbapimbjgfplhaa", sum := "870523b2c89bdfcc7e5ed469af3f891908b34fd7205a1ba4554752955d17e764", func := "rhyton/rhytonlaw01.CellShifts", spec := "cellShifts", unfollowed := true, recurses := true, apart := false }
def CellShiftsSaid : Prop := cellShiftsRow.holds Try.pinned (OpenSpec.ofChange cellShiftsSpec)

/-- ITS FALSE NEIGHBOUR: 'it returns false'. Refute it at one input. -/
def cellShiftsWrong : ChangeSpec := { name := "cellShifts", fn := fun _ => fun
  | [d1, d2, d3, d4] => { results := [.lit (.bool false)], args := [d1, d2, d3, d4] }
  | _ => none }
def CellShiftsWrongFalsely : Prop := cellShiftsRow.holds Try.pinned (OpenSpec.ofChange cellShiftsWrong)

/-- 'rhytonlaw01.CellOnes': WHATEVER THE INPUT: true; the input reads as it did. -/
def cellOnesSpec : ChangeSpec := { name := "cellOnes", fn := fun _ => fun
  | [d] => { results := [.lit (.bool true)], args := [d] }
  | _ => none }
def cellOnesRow : OpenClaim := { program := "ytbapimbjgfplhaa", sum := "870523b2c89bdfcc7e5ed469af3f891908b34fd7205a1ba4554752955d17e764", func := "rhyton/rhytonlaw01.CellOnes", spec := "cellOnes", unfollowed := true, recurses := true, apart := false }
def CellOnesSaid : Prop := cellOnesRow.holds Try.pinned (OpenSpec.ofChange cellOnesSpec)

/-- ITS FALSE NEIGHBOUR: 'it returns false'. Refute it at one input. -/
def cellOnesWrong : ChangeSpec := { name := "cellOnes", fn := fun _ => fun
  | [d] => { results := [.lit (.bool false)], args := [d] }
  | _ => none }
def CellOnesWrongFalsely : Prop := cellOnesRow.holds Try.pinned (OpenSpec.ofChange cellOnesWrong)

/-- 'rhytonlaw01.CellPlays': WHATEVER THE INPUT: true; the input reads as it did. -/
def cellPlaysSpec : ChangeSpec := { name := "cellPlays", fn := fun _ => fun
  | [d1, d2, d3] => { results := [.lit (.bool true)], args := [d1, d2, d3] }
  | _ => none }
def cellPlaysRow : OpenClaim := { program := "ytbapimbjgfplhaa", sum := "870523b2c89bdfcc7e5ed469af3f891908b34fd7205a1ba4554752955d17e764", func := "rhyton/rhytonlaw01.CellPlays", spec := "cellPlays", unfollowed := true, recurses := true, apart := false }
def CellPlaysSaid : Prop := cellPlaysRow.holds Try.pinned (OpenSpec.ofChange cellPlaysSpec)

/-- ITS FALSE NEIGHBOUR: 'it returns false'. Refute it at one input. -/
def cellPlaysWrong : ChangeSpec := { name := "cellPlays", fn := fun _ => fun
  | [d1, d2, d3] => { results := [.lit (.bool false)], args := [d1, d2, d3] }
  | _ => none }
def CellPlaysWrongFalsely : Prop := cellPlaysRow.holds Try.pinned (OpenSpec.ofChange cellPlaysWrong)

/- THE SECOND FORM. 'bulk': how many values and letters a reading holds, each counted each time it is reached (what is shared counts as often as it is met; a slice's spare places count too). A statement '..UptoSaid' is the law's where the arguments, and the package variables that the reading takes, are together of bulk at most 1048576: NARROWER than '..Said'. Prove '..Said' where nothing that the law and all that it calls make is longer than what came in: it says more and counts as full. Else prove '..UptoSaid'. A law counts once. -/
mutual
def uptoBulk {H : Type} : DataW H → Nat
  | .lit (.string bytes) => bytes.length + 1
  | .lit _ => 1
  | .nil => 1
  | .ptr d => uptoBulk d + 1
  | .slice elems spare => uptoBulkAll elems + uptoBulkAll spare + 1
  | .agg parts => uptoBulkAll parts + 1
  | .iface _ d => uptoBulk d + 1
  | .map entries => uptoBulkEntries entries + 1
  | .held _ => 1
def uptoBulkAll {H : Type} : List (DataW H) → Nat
  | [] => 0
  | d :: r => uptoBulk d + uptoBulkAll r
def uptoBulkEntries {H : Type} : List (Lit × DataW H) → Nat
  | [] => 0
  | x :: r => uptoBulkEntry x + uptoBulkEntries r
def uptoBulkEntry {H : Type} : Lit × DataW H → Nat
  | (.string bytes, d) => bytes.length + uptoBulk d + 1
  | (_, d) => uptoBulk d + 1
 end
def uptoSmall : (H : Type) → List (DataW H) → Bool := fun _ ds => decide (uptoBulkAll ds ≤ 1048576)
def OpenSpec.upto (s : _root_.Go.ChangeSpec) : _root_.Go.OpenSpec := { _root_.Go.OpenSpec.ofChange s with cond := some uptoSmall }

/-- 'rhytonlaw01.CellDivides', WHERE WHAT IT READS IS OF BULK AT MOST 1048576: true; the input reads as it did. -/
def cellDividesUptoRow : OpenClaim := { program := "ytbapimbjgfplhaa", sum := "870523b2c89bdfcc7e5ed469af3f891908b34fd7205a1ba4554752955d17e764", func := "rhyton/rhytonlaw01.CellDivides", spec := "cellDivides", unfollowed := true, recurses := true, apart := false, narrowed := true }
def CellDividesUptoSaid : Prop := cellDividesUptoRow.holds Try.pinned (OpenSpec.upto cellDividesSpec)

/-- 'rhytonlaw01.CellOrders', WHERE WHAT IT READS IS OF BULK AT MOST 1048576: true; the input reads as it did. -/
def cellOrdersUptoRow : OpenClaim := { program := "ytbapimbjgfplhaa", sum := "870523b2c89bdfcc7e5ed469af3f891908b34fd7205a1ba4554752955d17e764", func := "rhyton/rhytonlaw01.CellOrders", spec := "cellOrders", unfollowed := true, recurses := true, apart := false, narrowed := true }
def CellOrdersUptoSaid : Prop := cellOrdersUptoRow.holds Try.pinned (OpenSpec.upto cellOrdersSpec)

/-- 'rhytonlaw01.CellCarries', WHERE WHAT IT READS IS OF BULK AT MOST 1048576: true; the input reads as it did. -/
def cellCarriesUptoRow : OpenClaim := { program := "ytbapimbjgfplhaa", sum := "870523b2c89bdfcc7e5ed469af3f891908b34fd7205a1ba4554752955d17e764", func := "rhyton/rhytonlaw01.CellCarries", spec := "cellCarries", unfollowed := true, recurses := true, apart := false, narrowed := true }
def CellCarriesUptoSaid : Prop := cellCarriesUptoRow.holds Try.pinned (OpenSpec.upto cellCarriesSpec)

/-- 'rhytonlaw01.CellLogic', WHERE WHAT IT READS IS OF BULK AT MOST 1048576: true; the input reads as it did. -/
def cellLogicUptoRow : OpenClaim := { program := "ytbapimbjgfplhaa", sum := "870523b2c89bdfcc7e5ed469af3f891908b34fd7205a1ba4554752955d17e764", func := "rhyton/rhytonlaw01.CellLogic", spec := "cellLogic", unfollowed := true, recurses := true, apart := false, narrowed := true }
def CellLogicUptoSaid : Prop := cellLogicUptoRow.holds Try.pinned (OpenSpec.upto cellLogicSpec)

/-- 'rhytonlaw01.CellShifts', WHERE WHAT IT READS IS OF BULK AT MOST 1048576: true; the input reads as it did. -/
def cellShiftsUptoRow : OpenClaim := { program := "ytbapimbjgfplhaa", sum := "870523b2c89bdfcc7e5ed469af3f891908b34fd7205a1ba4554752955d17e764", func := "rhyton/rhytonlaw01.CellShifts", spec := "cellShifts", unfollowed := true, recurses := true, apart := false, narrowed := true }
def CellShiftsUptoSaid : Prop := cellShiftsUptoRow.holds Try.pinned (OpenSpec.upto cellShiftsSpec)

/-- 'rhytonlaw01.CellOnes', WHERE WHAT IT READS IS OF BULK AT MOST 1048576: true; the input reads as it did. -/
def cellOnesUptoRow : OpenClaim := { program := "ytbapimbjgfplhaa", sum := "870523b2c89bdfcc7e5ed469af3f891908b34fd7205a1ba4554752955d17e764", func := "rhyton/rhytonlaw01.CellOnes", spec := "cellOnes", unfollowed := true, recurses := true, apart := false, narrowed := true }
def CellOnesUptoSaid : Prop := cellOnesUptoRow.holds Try.pinned (OpenSpec.upto cellOnesSpec)

/-- 'rhytonlaw01.CellPlays', WHERE WHAT IT READS IS OF BULK AT MOST 1048576: true; the input reads as it did. -/
def cellPlaysUptoRow : OpenClaim := { program := "ytbapimbjgfplhaa", sum := "870523b2c89bdfcc7e5ed469af3f891908b34fd7205a1ba4554752955d17e764", func := "rhyton/rhytonlaw01.CellPlays", spec := "cellPlays", unfollowed := true, recurses := true, apart := false, narrowed := true }
def CellPlaysUptoSaid : Prop := cellPlaysUptoRow.holds Try.pinned (OpenSpec.upto cellPlaysSpec)

end Rows
end Go.Proofs.Ytbapimbjgfplhaa
