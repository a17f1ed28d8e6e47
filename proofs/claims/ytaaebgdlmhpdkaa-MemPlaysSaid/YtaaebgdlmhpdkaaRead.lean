/- The walks of mem.Mem's readers: Size, Here, piece, cell, and of New. Conditions: the memory lies in the heap as MemIs says. -/
import Derived.Test.YtaaebgdlmhpdkaaLib
namespace Go.Proofs.Ytaaebgdlmhpdkaa
open Go.RowKit
theorem size_any {p g : Nat} {bs : List UInt8} {h : Nat} (w : World) (M : MemIs w p g bs h) : Calls Try.prog 23 #[.pointer (some ⟨p, 0, none⟩)] w fun e w' => e = .returned (.int .i64 (bs.length : Int)) ∧ w = w' := by
  have c0 := M.slice_
  clear M
  go_enter Try.func23, Try.ntmps23
  go_wp2
  all_goals (first | (go_ret; exact ⟨rfl, rfl⟩) | exact ⟨rfl, rfl⟩)
theorem here_any {p g : Nat} {bs : List UInt8} {h : Nat} (w : World) (M : MemIs w p g bs h) : Calls Try.prog 22 #[.pointer (some ⟨p, 0, none⟩)] w fun e w' => e = .returned (.int .i64 (h : Int)) ∧ w = w' := by
  have c0 := M.here_
  clear M
  go_enter Try.func22, Try.ntmps22
  go_wp2
  all_goals (first | (go_ret; exact ⟨rfl, rfl⟩) | exact ⟨rfl, rfl⟩)
/-- The slice that piece hands out. -/
def pieceV (g a k : Nat) : Value := .slice (some (if k = 0 then ⟨g, 0, none⟩ else ⟨g, a, none⟩)) k k
theorem piece_ok {p g : Nat} {bs : List UInt8} {h : Nat} (w : World) (M : MemIs w p g bs h) (a k : Nat) (hak : a + k ≤ bs.length) :
    Calls Try.prog 30 #[.pointer (some ⟨p, 0, none⟩), .int .i64 (a : Int), .int .i64 (k : Int)] w fun e w' => e = .returned (.tuple #[pieceV g a k, .int .i64 0]) ∧ w = w' := by
  have c0 := M.slice_
  have hl := M.len
  have h1 : (a : Int) ≤ (bs.length : Int) := by omega
  have h2 : (k : Int) ≤ (bs.length : Int) - (a : Int) := by omega
  have HM := Lib.hid M
  clear M
  go_enter Try.func30, Try.ntmps30
  go_wp2_with (go_at_call 23; refine (size_any _ HM.out).mono ?_; rintro e w' ⟨rfl, rfl⟩)
  all_goals
    first | go_ret2 | skip
  · rename_i hk0
    have hk : k = 0 := by omega
    exact ⟨by subst hk; rfl, rfl⟩
  · rename_i hk0
    have hk : ¬ k = 0 := by omega
    have hv : pieceV g a k = .slice (some ⟨g, a, none⟩) k k := by simp [pieceV, hk]
    exact ⟨by rw [hv]; simp, rfl⟩
theorem piece_int {p g : Nat} {bs : List UInt8} {h : Nat} (w : World) (M : MemIs w p g bs h) (a k : Int) (h1 : 0 ≤ a) (h2 : 0 ≤ k) (h3 : a + k ≤ bs.length) :
    Calls Try.prog 30 #[.pointer (some ⟨p, 0, none⟩), .int .i64 a, .int .i64 k] w fun e w' => e = .returned (.tuple #[pieceV g a.toNat k.toNat, .int .i64 0]) ∧ w = w' := by
  obtain ⟨a, rfl⟩ := Int.eq_ofNat_of_zero_le h1
  obtain ⟨k, rfl⟩ := Int.eq_ofNat_of_zero_le h2
  exact piece_ok w M a k (by omega)
theorem piece_no {p g : Nat} {bs : List UInt8} {h : Nat} (w : World) (M : MemIs w p g bs h) (a k : Int) (hak : ¬ (0 ≤ a ∧ a ≤ bs.length ∧ 0 ≤ k ∧ k ≤ bs.length - a)) :
    Calls Try.prog 30 #[.pointer (some ⟨p, 0, none⟩), .int .i64 a, .int .i64 k] w fun e w' => e = .returned (.tuple #[.slice none 0 0, .int .i64 (-9)]) ∧ w = w' := by
  have hl := M.len
  have HM := Lib.hid M
  clear M
  rcases (show a < 0 ∨ (0 ≤ a ∧ (bs.length : Int) < a) ∨ (0 ≤ a ∧ a ≤ (bs.length : Int) ∧ k < 0) ∨ (0 ≤ a ∧ a ≤ (bs.length : Int) ∧ 0 ≤ k ∧ (bs.length : Int) - a < k) by omega) with h1 | ⟨h1, h2⟩ | ⟨h1, h2, h3⟩ | ⟨h1, h2, h3, h4⟩
  all_goals
    clear hak
    go_enter Try.func30, Try.ntmps30
    go_wp2_with (go_at_call 23; refine (size_any _ HM.out).mono ?_; rintro e w' ⟨rfl, rfl⟩)
    all_goals (first | (go_ret2; exact ⟨rfl, rfl⟩) | exact ⟨rfl, rfl⟩)
end Go.Proofs.Ytaaebgdlmhpdkaa
