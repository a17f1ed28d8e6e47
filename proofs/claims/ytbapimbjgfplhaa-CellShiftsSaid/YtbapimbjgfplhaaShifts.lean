/- The walk of CellShifts: for any cell, any two numbers of places, any number beyond, it returns true and changes nothing that was there. -/
import Derived.Test.YtbapimbjgfplhaaFive
namespace Go.Proofs.Ytbapimbjgfplhaa
open Go.RowKit
attribute [local go_sem ↓] execOp_call_slot
attribute [local go_sem] callVal_func
theorem wf_u8 {a : Int} (h : (Lit.int .u8 a).wf = true) : 0 ≤ a ∧ a ≤ 255 := by
  have hmin : IntKind.u8.min = 0 := rfl
  have hmax : IntKind.u8.max = 255 := rfl
  simp only [Lit.wf, Bool.and_eq_true, decide_eq_true_eq, hmin, hmax] at h
  exact h
def dbl (a : Int) : Nat → Int
  | 0 => a
  | k + 1 => oneF 6 (dbl a k)
theorem small_bv (k : Nat) (h : k < 9223372036854775808) : (BitVec.ofNat 64 k).toInt = (k : Int) ∧ (BitVec.ofNat 64 k).toNat = k := by
  have e : (BitVec.ofNat 64 k).toNat = k := by rw [BitVec.toNat_ofNat]; omega
  refine ⟨?_, e⟩
  rw [BitVec.toInt_eq_toNat_bmod, e]
  simp only [Int.bmod]; split <;> omega
theorem shl_nat (v : BitVec 64) (k : Nat) (h : k < 9223372036854775808) : twoF 19 v.toInt (k : Int) = (v <<< k).toInt := by
  obtain ⟨h1, h2⟩ := small_bv k h
  rw [tw19, ← h1, shlF_bv, h2]
theorem shr_nat (v : BitVec 64) (k : Nat) (h : k < 9223372036854775808) : twoF 20 v.toInt (k : Int) = (v >>> k).toInt := by
  obtain ⟨h1, h2⟩ := small_bv k h
  rw [tw20, ← h1, shrF_bv, h2]
theorem dbl_bv (v : BitVec 64) (k : Nat) : dbl v.toInt k = (v <<< k).toInt := by
  induction k with
  | zero => simp [dbl]
  | succ k ih =>
    have o6 : ∀ z, oneF 6 z = twF z := fun z => by simp [oneF]
    rw [dbl, ih, o6, twF]
    have h2 : ((v <<< k).toInt * 2) = (v <<< k).toInt + (v <<< k).toInt := by omega
    rw [h2, wrap64_bmod, ← BitVec.toInt_add, BitVec.shiftLeft_add]
    generalize v <<< k = u
    congr 1
    have : BitVec.twoPow 64 1 = 2#64 := by decide
    rw [BitVec.shiftLeft_eq_mul_twoPow, this, BitVec.mul_two]
theorem far_big (far : Int) (hfar : (Lit.int .i64 far).wf = true) (h : far < 0 ∨ 64 ≤ far) : ∃ y : BitVec 64, y.toInt = far ∧ 64 ≤ y.toNat := by
  obtain ⟨y, rfl⟩ := wf_bv hfar
  refine ⟨y, rfl, ?_⟩
  have hy := y.isLt
  rw [BitVec.toInt_eq_toNat_bmod] at h
  simp only [Int.bmod] at h
  split at h <;> omega
/-- What the tests of the loop ask of one op. -/
def Fits (op a x y far : Int) : Prop :=
  (twoE op (x + y) != 0) = false ∧ (twoF op (twoF op a x) y != twoF op a (x + y)) = false ∧ (twoE op far != 0) = false ∧ (far < 0 ∨ 64 ≤ far → (twoF op a far != 0) = false) ∧ (far = 0 → (twoF op a far != a) = false)
theorem fits (op a x y far : Int) (hop : op = 19 ∨ op = 20) (ha : (Lit.int .i64 a).wf = true) (hfar : (Lit.int .i64 far).wf = true) (hx : 0 ≤ x ∧ x ≤ 63) (hy : 0 ≤ y ∧ y ≤ 63) : Fits op a x y far := by
  obtain ⟨v, rfl⟩ := wf_bv ha
  obtain ⟨k, rfl⟩ := Int.eq_ofNat_of_zero_le hx.1
  obtain ⟨l, rfl⟩ := Int.eq_ofNat_of_zero_le hy.1
  have e1 : ((k : Int) + (l : Int)) = ((k + l : Nat) : Int) := by omega
  unfold Fits
  rcases hop with rfl | rfl
  · refine ⟨by simp [twoE], ?_, by simp [twoE], ?_, ?_⟩
    · rw [e1, shl_nat v k (by omega), shl_nat _ l (by omega), shl_nat v (k + l) (by omega), BitVec.shiftLeft_add]; simp
    · intro h
      obtain ⟨z, rfl, hz⟩ := far_big far hfar h
      rw [tw19, shlF_bv, BitVec.shiftLeft_eq_zero hz]; simp
    · rintro rfl
      have := shl_nat v 0 (by omega)
      rw [show (0 : Int) = ((0 : Nat) : Int) from rfl, this]; simp
  · refine ⟨by simp [twoE], ?_, by simp [twoE], ?_, ?_⟩
    · rw [e1, shr_nat v k (by omega), shr_nat _ l (by omega), shr_nat v (k + l) (by omega), BitVec.shiftRight_add]; simp
    · intro h
      obtain ⟨z, rfl, hz⟩ := far_big far hfar h
      rw [tw20, shrF_bv, BitVec.ushiftRight_eq_zero hz]; simp
    · rintro rfl
      have := shr_nat v 0 (by omega)
      rw [show (0 : Int) = ((0 : Nat) : Int) from rfl, this]; simp
theorem up_fact (a x : Int) (ha : (Lit.int .i64 a).wf = true) (hx : 0 ≤ x ∧ x ≤ 63) : (twoF 19 a x == dbl a x.toNat) = true := by
  obtain ⟨v, rfl⟩ := wf_bv ha
  obtain ⟨k, rfl⟩ := Int.eq_ofNat_of_zero_le hx.1
  rw [shl_nat v k (by omega), Int.toNat_natCast, dbl_bv]; simp
set_option maxHeartbeats 1000000 in
theorem walk_CellShifts (a n m far : Int) (ha : (Lit.int .i64 a).wf = true) (hn : (Lit.int .u8 n).wf = true) (hm : (Lit.int .u8 m).wf = true) (hfar : (Lit.int .i64 far).wf = true) (W : World) :
    Calls Try.prog 7 #[.int .i64 a, .int .u8 n, .int .u8 m, .int .i64 far] W fun e w' => e = .returned (.bool true) ∧ Below W.heap.size W w' := by
  have hB0 := Below.refl W.heap.size W
  obtain ⟨n1, n2⟩ := wf_u8 hn
  obtain ⟨m1, m2⟩ := wf_u8 hm
  clear hn hm
  go_enter Try.func7, Try.ntmps7
  try simp only [List.append]
  go_wp2_with fail
  refine (shown_ok W _ hB0).mono ?_
  clear hB0
  rintro e w' ⟨rfl, hB⟩
  go_wp2_with fail
  have hx : 0 ≤ n % 64 ∧ n % 64 ≤ 63 := by omega
  have hy : 0 ≤ m % 64 ∧ m % 64 ≤ 63 := by omega
  obtain ⟨x1, x2⟩ := hx
  obtain ⟨y1, y2⟩ := hy
  generalize n % 64 = x at *
  generalize m % 64 = y at *
  have A19 := Lib.hid (fits 19 a x y far (.inl rfl) ha hfar ⟨x1, x2⟩ ⟨y1, y2⟩)
  have A20 := Lib.hid (fits 20 a x y far (.inr rfl) ha hfar ⟨x1, x2⟩ ⟨y1, y2⟩)
  have U := Lib.hid (up_fact a x ha ⟨x1, x2⟩)
  clear ha hfar
  have hB2 := hB.alloc hB.size (.cells #[.int .i64 19, .int .i64 20] 3)
  have c0 : (w'.alloc (.cells #[.int .i64 19, .int .i64 20] 3)).cell? ⟨w'.heap.size, 0, none⟩ = some (.int .i64 19) := by go_simp
  have c1 : (w'.alloc (.cells #[.int .i64 19, .int .i64 20] 3)).cell? ⟨w'.heap.size, 1, none⟩ = some (.int .i64 20) := by go_simp
  have hs : w'.heap.size < (w'.alloc (.cells #[.int .i64 19, .int .i64 20] 3)).heap.size := by simp
  generalize w'.alloc (.cells #[.int .i64 19, .int .i64 20] 3) = W2 at *
  generalize w'.heap.size = g at *
  clear hB n1 n2 m1 m2
  have hB := Below.refl W2.heap.size W2
  refine wp_loop_rounds 3 ?_
  rw [rounds_succ]
  obtain ⟨f1, f2, f3, f4, f5⟩ := A19.out
  rcases (show far < 0 ∨ 64 ≤ far ∨ far = 0 ∨ (0 < far ∧ far < 64) by omega) with h0 | h0 | h0 | ⟨h0, h00⟩
  · have f6 := f4 (.inl h0)
    obtain ⟨k1, k2, k3, k4, k5⟩ := A20.out
    have k6 := k4 (.inl h0)
    clear f4 f5 k4 k5
    go_wp2_with (go_at_call 11; refine (two_any W2 _ _ _ _ hB).mono ?_; clear hB; rintro e w' ⟨rfl, hB⟩)
    clear f1 f2 f3 f6
    rw [rounds_succ]
    have d1 := (hB.cell (p := ⟨g, 1, none⟩) hs).trans c1
    go_wp2_with (go_at_call 11; refine (two_any W2 _ _ _ _ hB).mono ?_; clear hB; rintro e w' ⟨rfl, hB⟩)
    clear k1 k2 k3 k6 d1
    rw [rounds_succ]
    go_wp2_with fail
    go_loopw [22, 101] (fun u i wr => ∃ k : Nat, k ≤ x.toNat ∧ i = .int .i64 k ∧ u = .int .i64 (dbl a k) ∧ Below W2.heap.size W2 wr) (fun _ i _ => x.toNat - (intOf i).toNat)
    case atStart => exact ⟨0, Nat.zero_le _, rfl, rfl, hB⟩
    case round =>
      obtain ⟨k, hk, rfl, rfl, hR⟩ := hrel
      by_cases hlt : k < x.toNat
      · have hlt' : (k : Int) < x := by omega
        go_wp2_with (go_at_call 16; refine (one_any W2 _ _ _ hR).mono ?_; rintro e w3 ⟨rfl, hB3⟩)
        go_roundw
        case rel => exact ⟨k + 1, by omega, by go_num, rfl, hB3⟩
        case measure => simp [intOf]; omega
      · have hlt' : ¬ (k : Int) < x := by omega
        obtain rfl : k = x.toNat := by omega
        have HU := U.out
        go_wp2_with (go_at_call 11; refine (two_any W2 _ _ _ _ hR).mono ?_; rintro e w3 ⟨rfl, hB3⟩)
        go_ret
        exact ⟨rfl, hB2.trans (hB3.mono hB2.size)⟩
  · have f6 := f4 (.inr h0)
    obtain ⟨k1, k2, k3, k4, k5⟩ := A20.out
    have k6 := k4 (.inr h0)
    clear f4 f5 k4 k5
    go_wp2_with (go_at_call 11; refine (two_any W2 _ _ _ _ hB).mono ?_; clear hB; rintro e w' ⟨rfl, hB⟩)
    clear f1 f2 f3 f6
    rw [rounds_succ]
    have d1 := (hB.cell (p := ⟨g, 1, none⟩) hs).trans c1
    go_wp2_with (go_at_call 11; refine (two_any W2 _ _ _ _ hB).mono ?_; clear hB; rintro e w' ⟨rfl, hB⟩)
    clear k1 k2 k3 k6 d1
    rw [rounds_succ]
    go_wp2_with fail
    go_loopw [22, 101] (fun u i wr => ∃ k : Nat, k ≤ x.toNat ∧ i = .int .i64 k ∧ u = .int .i64 (dbl a k) ∧ Below W2.heap.size W2 wr) (fun _ i _ => x.toNat - (intOf i).toNat)
    case atStart => exact ⟨0, Nat.zero_le _, rfl, rfl, hB⟩
    case round =>
      obtain ⟨k, hk, rfl, rfl, hR⟩ := hrel
      by_cases hlt : k < x.toNat
      · have hlt' : (k : Int) < x := by omega
        go_wp2_with (go_at_call 16; refine (one_any W2 _ _ _ hR).mono ?_; rintro e w3 ⟨rfl, hB3⟩)
        go_roundw
        case rel => exact ⟨k + 1, by omega, by go_num, rfl, hB3⟩
        case measure => simp [intOf]; omega
      · have hlt' : ¬ (k : Int) < x := by omega
        obtain rfl : k = x.toNat := by omega
        have HU := U.out
        go_wp2_with (go_at_call 11; refine (two_any W2 _ _ _ _ hR).mono ?_; rintro e w3 ⟨rfl, hB3⟩)
        go_ret
        exact ⟨rfl, hB2.trans (hB3.mono hB2.size)⟩
  · have f6 := f5 h0
    subst h0
    obtain ⟨k1, k2, k3, k4, k5⟩ := A20.out
    have k6 := k5 rfl
    clear f4 f5 k4 k5
    go_wp2_with (go_at_call 11; refine (two_any W2 _ _ _ _ hB).mono ?_; clear hB; rintro e w' ⟨rfl, hB⟩)
    clear f1 f2 f3 f6
    rw [rounds_succ]
    have d1 := (hB.cell (p := ⟨g, 1, none⟩) hs).trans c1
    go_wp2_with (go_at_call 11; refine (two_any W2 _ _ _ _ hB).mono ?_; clear hB; rintro e w' ⟨rfl, hB⟩)
    clear k1 k2 k3 k6 d1
    rw [rounds_succ]
    go_wp2_with fail
    go_loopw [22, 101] (fun u i wr => ∃ k : Nat, k ≤ x.toNat ∧ i = .int .i64 k ∧ u = .int .i64 (dbl a k) ∧ Below W2.heap.size W2 wr) (fun _ i _ => x.toNat - (intOf i).toNat)
    case atStart => exact ⟨0, Nat.zero_le _, rfl, rfl, hB⟩
    case round =>
      obtain ⟨k, hk, rfl, rfl, hR⟩ := hrel
      by_cases hlt : k < x.toNat
      · have hlt' : (k : Int) < x := by omega
        go_wp2_with (go_at_call 16; refine (one_any W2 _ _ _ hR).mono ?_; rintro e w3 ⟨rfl, hB3⟩)
        go_roundw
        case rel => exact ⟨k + 1, by omega, by go_num, rfl, hB3⟩
        case measure => simp [intOf]; omega
      · have hlt' : ¬ (k : Int) < x := by omega
        obtain rfl : k = x.toNat := by omega
        have HU := U.out
        go_wp2_with (go_at_call 11; refine (two_any W2 _ _ _ _ hR).mono ?_; rintro e w3 ⟨rfl, hB3⟩)
        go_ret
        exact ⟨rfl, hB2.trans (hB3.mono hB2.size)⟩
  · have hd : (far == 0) = false := by simp; omega
    obtain ⟨k1, k2, k3, k4, k5⟩ := A20.out
    have hd2 : ¬ 64 ≤ far := by omega
    clear f4 f5 k4 k5
    go_wp2_with (go_at_call 11; refine (two_any W2 _ _ _ _ hB).mono ?_; clear hB; rintro e w' ⟨rfl, hB⟩)
    clear f1 f2 f3
    rw [rounds_succ]
    have d1 := (hB.cell (p := ⟨g, 1, none⟩) hs).trans c1
    go_wp2_with (go_at_call 11; refine (two_any W2 _ _ _ _ hB).mono ?_; clear hB; rintro e w' ⟨rfl, hB⟩)
    clear k1 k2 k3 d1
    rw [rounds_succ]
    go_wp2_with fail
    go_loopw [22, 101] (fun u i wr => ∃ k : Nat, k ≤ x.toNat ∧ i = .int .i64 k ∧ u = .int .i64 (dbl a k) ∧ Below W2.heap.size W2 wr) (fun _ i _ => x.toNat - (intOf i).toNat)
    case atStart => exact ⟨0, Nat.zero_le _, rfl, rfl, hB⟩
    case round =>
      obtain ⟨k, hk, rfl, rfl, hR⟩ := hrel
      by_cases hlt : k < x.toNat
      · have hlt' : (k : Int) < x := by omega
        go_wp2_with (go_at_call 16; refine (one_any W2 _ _ _ hR).mono ?_; rintro e w3 ⟨rfl, hB3⟩)
        go_roundw
        case rel => exact ⟨k + 1, by omega, by go_num, rfl, hB3⟩
        case measure => simp [intOf]; omega
      · have hlt' : ¬ (k : Int) < x := by omega
        obtain rfl : k = x.toNat := by omega
        have HU := U.out
        go_wp2_with (go_at_call 11; refine (two_any W2 _ _ _ _ hR).mono ?_; rintro e w3 ⟨rfl, hB3⟩)
        go_ret
        exact ⟨rfl, hB2.trans (hB3.mono hB2.size)⟩
end Go.Proofs.Ytbapimbjgfplhaa
