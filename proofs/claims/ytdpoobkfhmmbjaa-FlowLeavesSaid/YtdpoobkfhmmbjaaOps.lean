/- Walks over rhytonref10's goes, on, more. -/
import Derived.Test.YtdpoobkfhmmbjaaPair
namespace Go.Proofs.Ytdpoobkfhmmbjaa
open Go.RowKit
def goesB (op : Int) : Bool := op == 3 || op == 4 || op == 6 || op == 7 || op == 8 || op == 9 || op == 10
def onB (op : Int) : Bool := op != 3 && op != 9 && op != 15
def moreA (op : Int) : Int := if op == 5 then 1 else if op == 6 then 1 else if op == 7 then -1 else if op == 8 then -1 else 0
def moreB (op : Int) : Int := if op == 9 then -1 else 0
set_option maxRecDepth 100000 in
theorem on_any (op : Int) (w : World) : Calls Try.prog 61 #[.int .u8 op] w fun e w' => e = .returned (.bool (onB op)) ∧ w = w' := by
  unfold onB
  cases h3 : (op != 3) <;> cases h9 : (op != 9) <;> cases h15 : (op != 15)
  all_goals (
    go_enter Try.func61, Try.ntmps61
    go_wp2_with fail)
  all_goals (first | go_ret | skip)
  all_goals exact ⟨rfl, rfl⟩
set_option maxRecDepth 100000 in
theorem goes_any (op : Int) (hop : 0 ≤ op ∧ op < 16) (w : World) : Calls Try.prog 32 #[.int .u8 op] w fun e w' => e = .returned (.bool (goesB op)) ∧ w = w' := by
  obtain ⟨n, rfl⟩ := Int.eq_ofNat_of_zero_le hop.1
  have hn : n < 16 := by omega
  match n, hn with
  | 0, _ | 1, _ | 2, _ | 3, _ | 4, _ | 5, _ | 6, _ | 7, _ | 8, _ | 9, _ | 10, _ | 11, _ | 12, _ | 13, _ | 14, _ | 15, _ =>
    go_enter Try.func32, Try.ntmps32
    go_wp2_with fail
    all_goals (first | go_ret | skip)
    all_goals exact ⟨rfl, rfl⟩
  | n + 16, h => exact absurd h (by omega)
set_option maxRecDepth 100000 in
theorem more_any (op : Int) (hop : 0 ≤ op ∧ op < 16) (w : World) : Calls Try.prog 60 #[.int .u8 op] w fun e w' => e = .returned (.tuple #[.int .i64 (moreA op), .int .i64 (moreB op)]) ∧ w = w' := by
  obtain ⟨n, rfl⟩ := Int.eq_ofNat_of_zero_le hop.1
  have hn : n < 16 := by omega
  match n, hn with
  | 0, _ | 1, _ | 2, _ | 3, _ | 4, _ | 5, _ | 6, _ | 7, _ | 8, _ | 9, _ | 10, _ | 11, _ | 12, _ | 13, _ | 14, _ | 15, _ =>
    go_enter Try.func60, Try.ntmps60
    go_wp2_with fail
    all_goals (first | go_ret2 | skip)
    all_goals exact ⟨rfl, rfl⟩
  | n + 16, h => exact absurd h (by omega)
end Go.Proofs.Ytdpoobkfhmmbjaa
