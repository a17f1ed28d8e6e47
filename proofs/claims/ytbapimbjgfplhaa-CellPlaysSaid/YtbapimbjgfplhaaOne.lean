/- Walks over cell.One and over the examples at the head of the statements (shown): each returns what the plain functions say, and changes nothing that was there. No condition. -/
import Derived.Test.YtbapimbjgfplhaaTwo
namespace Go.Proofs.Ytbapimbjgfplhaa
open Go.RowKit
def negF (a : Int) : Int := wrap64 (-a)
def absF (a : Int) : Int := if a < 0 then wrap64 (-a) else a
def invF (a : Int) : Int := bits .xor .i64 (-1) a
def incF (a : Int) : Int := wrap64 (a + 1)
def decF (a : Int) : Int := wrap64 (a - 1)
def twF (a : Int) : Int := wrap64 (a * 2)
def hfF (a : Int) : Int := a / 2
def iszF (a : Int) : Int := truth (a == 0)
def isnF (a : Int) : Int := truth (decide (a < 0))
def nzF (a : Int) : Int := truth (a != 0)
theorem one_1 (a : Int) (w : World) : Calls Try.prog 16 #[.int .i64 1, .int .i64 a] w fun e w' => e = .returned (.tuple #[.int .i64 (negF a), .int .i64 0]) ∧ Below w.heap.size w w' := by
    go_enter Try.func16, Try.ntmps16
    go_wp2_with (go_at_call 23; refine (truth_any _ _).mono ?_; rintro e w' ⟨rfl, rfl⟩)
    first | (go_ret2; exact ⟨rfl, Below.refl _ _⟩) | exact ⟨rfl, Below.refl _ _⟩
theorem one_2 (a : Int) (w : World) : Calls Try.prog 16 #[.int .i64 2, .int .i64 a] w fun e w' => e = .returned (.tuple #[.int .i64 (absF a), .int .i64 0]) ∧ Below w.heap.size w w' := by
  by_cases h : a < 0
  · have HV := Lib.hid (show absF a = wrap64 (-a) by simp [absF, h])
    go_enter Try.func16, Try.ntmps16
    go_wp2_with (go_at_call 23; refine (truth_any _ _).mono ?_; rintro e w' ⟨rfl, rfl⟩)
    first | (go_ret2; exact ⟨by rw [HV.out]; rfl, Below.refl _ _⟩) | exact ⟨by rw [HV.out]; rfl, Below.refl _ _⟩
  · have HV := Lib.hid (show absF a = a by simp [absF, h])
    go_enter Try.func16, Try.ntmps16
    go_wp2_with (go_at_call 23; refine (truth_any _ _).mono ?_; rintro e w' ⟨rfl, rfl⟩)
    first | (go_ret2; exact ⟨by rw [HV.out]; rfl, Below.refl _ _⟩) | exact ⟨by rw [HV.out]; rfl, Below.refl _ _⟩
theorem one_3 (a : Int) (w : World) : Calls Try.prog 16 #[.int .i64 3, .int .i64 a] w fun e w' => e = .returned (.tuple #[.int .i64 (invF a), .int .i64 0]) ∧ Below w.heap.size w w' := by
    go_enter Try.func16, Try.ntmps16
    go_wp2_with (go_at_call 23; refine (truth_any _ _).mono ?_; rintro e w' ⟨rfl, rfl⟩)
    first | (go_ret2; exact ⟨rfl, Below.refl _ _⟩) | exact ⟨rfl, Below.refl _ _⟩
theorem one_4 (a : Int) (w : World) : Calls Try.prog 16 #[.int .i64 4, .int .i64 a] w fun e w' => e = .returned (.tuple #[.int .i64 (incF a), .int .i64 0]) ∧ Below w.heap.size w w' := by
    go_enter Try.func16, Try.ntmps16
    go_wp2_with (go_at_call 23; refine (truth_any _ _).mono ?_; rintro e w' ⟨rfl, rfl⟩)
    first | (go_ret2; exact ⟨rfl, Below.refl _ _⟩) | exact ⟨rfl, Below.refl _ _⟩
theorem one_5 (a : Int) (w : World) : Calls Try.prog 16 #[.int .i64 5, .int .i64 a] w fun e w' => e = .returned (.tuple #[.int .i64 (decF a), .int .i64 0]) ∧ Below w.heap.size w w' := by
    go_enter Try.func16, Try.ntmps16
    go_wp2_with (go_at_call 23; refine (truth_any _ _).mono ?_; rintro e w' ⟨rfl, rfl⟩)
    first | (go_ret2; exact ⟨rfl, Below.refl _ _⟩) | exact ⟨rfl, Below.refl _ _⟩
theorem one_6 (a : Int) (w : World) : Calls Try.prog 16 #[.int .i64 6, .int .i64 a] w fun e w' => e = .returned (.tuple #[.int .i64 (twF a), .int .i64 0]) ∧ Below w.heap.size w w' := by
    go_enter Try.func16, Try.ntmps16
    go_wp2_with (go_at_call 23; refine (truth_any _ _).mono ?_; rintro e w' ⟨rfl, rfl⟩)
    first | (go_ret2; exact ⟨rfl, Below.refl _ _⟩) | exact ⟨rfl, Below.refl _ _⟩
theorem one_7 (a : Int) (w : World) : Calls Try.prog 16 #[.int .i64 7, .int .i64 a] w fun e w' => e = .returned (.tuple #[.int .i64 (hfF a), .int .i64 0]) ∧ Below w.heap.size w w' := by
    go_enter Try.func16, Try.ntmps16
    go_wp2_with (go_at_call 23; refine (truth_any _ _).mono ?_; rintro e w' ⟨rfl, rfl⟩)
    first | (go_ret2; exact ⟨rfl, Below.refl _ _⟩) | exact ⟨rfl, Below.refl _ _⟩
theorem one_8 (a : Int) (w : World) : Calls Try.prog 16 #[.int .i64 8, .int .i64 a] w fun e w' => e = .returned (.tuple #[.int .i64 (iszF a), .int .i64 0]) ∧ Below w.heap.size w w' := by
    go_enter Try.func16, Try.ntmps16
    go_wp2_with (go_at_call 23; refine (truth_any _ _).mono ?_; rintro e w' ⟨rfl, rfl⟩)
    first | (go_ret2; exact ⟨rfl, Below.refl _ _⟩) | exact ⟨rfl, Below.refl _ _⟩
theorem one_9 (a : Int) (w : World) : Calls Try.prog 16 #[.int .i64 9, .int .i64 a] w fun e w' => e = .returned (.tuple #[.int .i64 (isnF a), .int .i64 0]) ∧ Below w.heap.size w w' := by
    go_enter Try.func16, Try.ntmps16
    go_wp2_with (go_at_call 23; refine (truth_any _ _).mono ?_; rintro e w' ⟨rfl, rfl⟩)
    first | (go_ret2; exact ⟨rfl, Below.refl _ _⟩) | exact ⟨rfl, Below.refl _ _⟩
theorem one_10 (a : Int) (w : World) : Calls Try.prog 16 #[.int .i64 10, .int .i64 a] w fun e w' => e = .returned (.tuple #[.int .i64 (nzF a), .int .i64 0]) ∧ Below w.heap.size w w' := by
    go_enter Try.func16, Try.ntmps16
    go_wp2_with (go_at_call 23; refine (truth_any _ _).mono ?_; rintro e w' ⟨rfl, rfl⟩)
    first | (go_ret2; exact ⟨rfl, Below.refl _ _⟩) | exact ⟨rfl, Below.refl _ _⟩
theorem one_no (n a : Int) (w : World) (h : n < 1 ∨ 10 < n) : Calls Try.prog 16 #[.int .i64 n, .int .i64 a] w fun e w' => e = .returned (.tuple #[.int .i64 0, .int .i64 1]) ∧ Below w.heap.size w w' := by
  have h1 : (n == 1) = false := by simp; omega
  have h2 : (n == 2) = false := by simp; omega
  have h3 : (n == 3) = false := by simp; omega
  have h4 : (n == 4) = false := by simp; omega
  have h5 : (n == 5) = false := by simp; omega
  have h6 : (n == 6) = false := by simp; omega
  have h7 : (n == 7) = false := by simp; omega
  have h8 : (n == 8) = false := by simp; omega
  have h9 : (n == 9) = false := by simp; omega
  have h10 : (n == 10) = false := by simp; omega
  go_enter Try.func16, Try.ntmps16
  go_wp2_with fail
  all_goals (first | (go_ret2; exact ⟨rfl, Below.refl _ _⟩) | exact ⟨rfl, Below.refl _ _⟩)
theorem find_no (n : Int) (h : n < 11 ∨ 27 < n) : Instr.findNow (.int .i64) (.int .i64 n) doesMap.toList 0 = some none := by
  have e : ∀ k : Int, 11 ≤ k → k ≤ 27 → (n == k) = false := by intro k h1 h2; simp; omega
  simp [doesMap, Instr.findNow, Instr.sameNow, e 11, e 12, e 13, e 14, e 15, e 16, e 17, e 18, e 19, e 20, e 21, e 22, e 23, e 24, e 25, e 26, e 27]
theorem two_no (n a b : Int) (w : World) (h : n < 11 ∨ 27 < n) : Calls Try.prog 11 #[.int .i64 n, .int .i64 a, .int .i64 b] w fun e w' => e = .returned (.tuple #[.int .i64 0, .int .i64 1]) ∧ Below w.heap.size w w' := by
  go_enter Try.func11, Try.ntmps11
  go_wp2_with fail
  refine (does_any _).mono ?_
  rintro e w1 ⟨rfl, rfl⟩
  have hl := run_look_none (P := Try.prog) (mty := 41) (kt := 3) (et := 39) Try.underlying41 Try.underlying3 (k := n) (w := w.alloc (.map doesMap 17)) (MapKept.heap_alloc w (.map doesMap 17)).1 (z := .nilFunc) (by kernel_rfl) (find_no n h)
  have hA := (Below.refl w.heap.size w).alloc (Nat.le_refl _) (.map doesMap 17)
  go_wp2_with fail
  all_goals (first | (go_ret2; exact ⟨rfl, hA⟩) | exact ⟨rfl, hA⟩)
theorem shown_any (w : World) : Calls Try.prog 10 #[] w fun e w' => e = .returned (.bool true) ∧ Below w.heap.size w w' := by
  have e1 : qF (-7) 2 = -4 := by decide +kernel
  have e2 : rF (-7) 2 = 1 := by decide +kernel
  have e3 : shrF (-1) 60 = 15 := by decide +kernel
  have c1 := fun w => two_14 (-7) 2 w (by decide)
  have c2 := fun w => two_15 (-7) 2 w (by decide)
  have c3 := fun w => two_20 (-1) 60 w
  rw [e1] at c1
  rw [e2] at c2
  rw [e3] at c3
  have C1 := Lib.hid c1
  have C2 := Lib.hid c2
  have C3 := Lib.hid c3
  clear c1 c2 c3 e1 e2 e3
  go_enter Try.func10, Try.ntmps10
  go_wp2_with fail
  refine (C1.out _).mono ?_
  rintro e w1 ⟨rfl, hB1⟩
  go_wp2_with fail
  refine (C2.out _).mono ?_
  rintro e w2 ⟨rfl, hB2⟩
  go_wp2_with fail
  refine (C3.out _).mono ?_
  rintro e w3 ⟨rfl, hB3⟩
  go_wp2_with fail
  all_goals go_ret
  all_goals exact ⟨rfl, hB1.trans ((hB2.mono hB1.size).trans (hB3.mono (Nat.le_trans hB1.size hB2.size)) |>.mono (Nat.le_refl _))⟩
end Go.Proofs.Ytbapimbjgfplhaa
