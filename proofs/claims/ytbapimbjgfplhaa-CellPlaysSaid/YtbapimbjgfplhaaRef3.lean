/- The reference's Two and One, walked: what they return is what cell.Two and cell.One return (twoF, twoE, oneF, oneE). Condition: the arguments are cells. -/
import Derived.Test.YtbapimbjgfplhaaRef2
namespace Go.Proofs.Ytbapimbjgfplhaa
open Go.RowKit
theorem ult_same (a b : Int) (ha : -9223372036854775808 ≤ a ∧ a ≤ 9223372036854775807) (hb : -9223372036854775808 ≤ b ∧ b ≤ 9223372036854775807) :
    ((a < 0 ↔ b < 0) → ultF a b = truth (decide (a < b))) ∧ (¬ (a < 0 ↔ b < 0) → ultF a b = truth (decide (b < 0))) := by
  unfold ultF
  rw [IntKind.wrap_u64, IntKind.wrap_u64]
  constructor
  · intro h; congr 2; apply propext; omega
  · intro h; congr 2; apply propext; omega
theorem rcmp_21 (a b : Int) (w : World) : Calls Try.prog 30 #[.int .i64 21, .int .i64 a, .int .i64 b] w fun e w' => e = .returned (.int .i64 (eqF a b)) ∧ w = w' := by
  go_enter Try.func30, Try.ntmps30
  go_wp2_with (go_at_call 24; refine (rtruth_any _ _).mono ?_; rintro e w' ⟨rfl, rfl⟩)
  first | (go_ret; exact ⟨rfl, rfl⟩) | exact ⟨rfl, rfl⟩
theorem rcmp_22 (a b : Int) (w : World) : Calls Try.prog 30 #[.int .i64 22, .int .i64 a, .int .i64 b] w fun e w' => e = .returned (.int .i64 (neF a b)) ∧ w = w' := by
  go_enter Try.func30, Try.ntmps30
  go_wp2_with (go_at_call 24; refine (rtruth_any _ _).mono ?_; rintro e w' ⟨rfl, rfl⟩)
  first | (go_ret; exact ⟨rfl, rfl⟩) | exact ⟨rfl, rfl⟩
theorem rcmp_23 (a b : Int) (w : World) : Calls Try.prog 30 #[.int .i64 23, .int .i64 a, .int .i64 b] w fun e w' => e = .returned (.int .i64 (ltF a b)) ∧ w = w' := by
  go_enter Try.func30, Try.ntmps30
  go_wp2_with (go_at_call 24; refine (rtruth_any _ _).mono ?_; rintro e w' ⟨rfl, rfl⟩)
  first | (go_ret; exact ⟨rfl, rfl⟩) | exact ⟨rfl, rfl⟩
theorem rcmp_24 (a b : Int) (w : World) : Calls Try.prog 30 #[.int .i64 24, .int .i64 a, .int .i64 b] w fun e w' => e = .returned (.int .i64 (gtF a b)) ∧ w = w' := by
  go_enter Try.func30, Try.ntmps30
  go_wp2_with (go_at_call 24; refine (rtruth_any _ _).mono ?_; rintro e w' ⟨rfl, rfl⟩)
  first | (go_ret; exact ⟨rfl, rfl⟩) | exact ⟨rfl, rfl⟩
theorem rcmp_25 (a b : Int) (ha : -9223372036854775808 ≤ a ∧ a ≤ 9223372036854775807) (hb : -9223372036854775808 ≤ b ∧ b ≤ 9223372036854775807) (w : World) : Calls Try.prog 30 #[.int .i64 25, .int .i64 a, .int .i64 b] w fun e w' => e = .returned (.int .i64 (ultF a b)) ∧ w = w' := by
  obtain ⟨u1, u2⟩ := ult_same a b ha hb
  have U1 := Lib.hid u1
  have U2 := Lib.hid u2
  clear u1 u2 ha hb
  by_cases h1 : a < 0 <;> by_cases h2 : b < 0
  · have HV := Lib.hid (U1.out ⟨fun _ => h2, fun _ => h1⟩)
    go_enter Try.func30, Try.ntmps30
    go_wp2_with (go_at_call 24; refine (rtruth_any _ _).mono ?_; rintro e w' ⟨rfl, rfl⟩)
    first | go_ret | skip
    refine ⟨?_, rfl⟩
    first | (rw [HV.out]; done) | (rw [HV.out]; rfl) | (rw [HV.out]; simp [truth, *]; done)
  · have HV := Lib.hid (U2.out (fun h => h2 (h.1 h1)))
    go_enter Try.func30, Try.ntmps30
    go_wp2_with (go_at_call 24; refine (rtruth_any _ _).mono ?_; rintro e w' ⟨rfl, rfl⟩)
    first | go_ret | skip
    refine ⟨?_, rfl⟩
    first | (rw [HV.out]; done) | (rw [HV.out]; rfl) | (rw [HV.out]; simp [truth, *]; done)
  · have HV := Lib.hid (U2.out (fun h => h1 (h.2 h2)))
    go_enter Try.func30, Try.ntmps30
    go_wp2_with (go_at_call 24; refine (rtruth_any _ _).mono ?_; rintro e w' ⟨rfl, rfl⟩)
    first | go_ret | skip
    refine ⟨?_, rfl⟩
    first | (rw [HV.out]; done) | (rw [HV.out]; rfl) | (rw [HV.out]; simp [truth, *]; done)
  · have HV := Lib.hid (U1.out ⟨fun h => absurd h h1, fun h => absurd h h2⟩)
    go_enter Try.func30, Try.ntmps30
    go_wp2_with (go_at_call 24; refine (rtruth_any _ _).mono ?_; rintro e w' ⟨rfl, rfl⟩)
    first | go_ret | skip
    refine ⟨?_, rfl⟩
    first | (rw [HV.out]; done) | (rw [HV.out]; rfl) | (rw [HV.out]; simp [truth, *]; done)
theorem rcmp_26 (a b : Int) (w : World) : Calls Try.prog 30 #[.int .i64 26, .int .i64 a, .int .i64 b] w fun e w' => e = .returned (.int .i64 (minF a b)) ∧ w = w' := by
  by_cases h : a < b
  · have HV := Lib.hid (show minF a b = a by unfold minF; rw [if_neg (by omega)])
    go_enter Try.func30, Try.ntmps30
    go_wp2
    first | (go_ret; exact ⟨by rw [HV.out]; rfl, rfl⟩) | exact ⟨by rw [HV.out]; rfl, rfl⟩
  · have HV := Lib.hid (show minF a b = b by unfold minF; split <;> omega)
    go_enter Try.func30, Try.ntmps30
    go_wp2
    first | (go_ret; exact ⟨by rw [HV.out]; rfl, rfl⟩) | exact ⟨by rw [HV.out]; rfl, rfl⟩
theorem rcmp_27 (a b : Int) (w : World) : Calls Try.prog 30 #[.int .i64 27, .int .i64 a, .int .i64 b] w fun e w' => e = .returned (.int .i64 (maxF a b)) ∧ w = w' := by
  by_cases h : a < b
  · have HV := Lib.hid (show maxF a b = b by unfold maxF; rw [if_pos h])
    go_enter Try.func30, Try.ntmps30
    go_wp2
    first | (go_ret; exact ⟨by rw [HV.out]; rfl, rfl⟩) | exact ⟨by rw [HV.out]; rfl, rfl⟩
  · have HV := Lib.hid (show maxF a b = a by unfold maxF; rw [if_neg h])
    go_enter Try.func30, Try.ntmps30
    go_wp2
    first | (go_ret; exact ⟨by rw [HV.out]; rfl, rfl⟩) | exact ⟨by rw [HV.out]; rfl, rfl⟩
theorem inv_bv (x : BitVec 64) : BitVec.allOnes 64 ^^^ x = BitVec.allOnes 64 - x := by
  rw [BitVec.allOnes_xor]
  have h := BitVec.add_not_self x
  rw [← h, BitVec.add_comm]
  exact (BitVec.add_sub_cancel _ _).symm
theorem inv_same (a : Int) (ha : -9223372036854775808 ≤ a ∧ a ≤ 9223372036854775807) : invF a = wrap64 (-1 - a) := by
  obtain ⟨x, rfl⟩ := bv_of ha
  have e : (-1 : Int) = (BitVec.allOnes 64).toInt := by decide
  unfold invF
  rw [e, bits_xor, wrap64_bmod, ← BitVec.toInt_sub, inv_bv]
theorem rone_1 (a : Int) (ha : -9223372036854775808 ≤ a ∧ a ≤ 9223372036854775807) (w : World) : Calls Try.prog 19 #[.int .i64 1, .int .i64 a] w fun e w' => e = .returned (.tuple #[.int .i64 (negF a), .int .i64 0]) ∧ w = w' := by
    have HV := Lib.hid (show negF a = wrap64 (0 - a) by unfold negF; congr 1; omega)
    have HA := Lib.hid ha
    clear ha
    go_enter Try.func19, Try.ntmps19
    go_wp2_with (first | (go_at_call 24; refine (rtruth_any _ _).mono ?_; rintro e w' ⟨rfl, rfl⟩) | (go_at_call 26; refine (rhalf_any _ HA.out _).mono ?_; rintro e w' ⟨rfl, rfl⟩))
    first | (go_ret2; exact ⟨by rw [HV.out]; simp, rfl⟩) | exact ⟨by rw [HV.out]; simp, rfl⟩
theorem rone_2 (a : Int) (ha : -9223372036854775808 ≤ a ∧ a ≤ 9223372036854775807) (w : World) : Calls Try.prog 19 #[.int .i64 2, .int .i64 a] w fun e w' => e = .returned (.tuple #[.int .i64 (absF a), .int .i64 0]) ∧ w = w' := by
  by_cases h : a < 0
  · have HV := Lib.hid (show absF a = wrap64 (0 - a) by unfold absF; rw [if_pos h]; congr 1; omega)
    have HA := Lib.hid ha
    clear ha
    go_enter Try.func19, Try.ntmps19
    go_wp2_with (first | (go_at_call 24; refine (rtruth_any _ _).mono ?_; rintro e w' ⟨rfl, rfl⟩) | (go_at_call 26; refine (rhalf_any _ HA.out _).mono ?_; rintro e w' ⟨rfl, rfl⟩))
    first | (go_ret2; exact ⟨by rw [HV.out]; simp, rfl⟩) | exact ⟨by rw [HV.out]; simp, rfl⟩
  · have HV := Lib.hid (show absF a = a by unfold absF; rw [if_neg h])
    have HA := Lib.hid ha
    clear ha
    go_enter Try.func19, Try.ntmps19
    go_wp2_with (first | (go_at_call 24; refine (rtruth_any _ _).mono ?_; rintro e w' ⟨rfl, rfl⟩) | (go_at_call 26; refine (rhalf_any _ HA.out _).mono ?_; rintro e w' ⟨rfl, rfl⟩))
    first | (go_ret2; exact ⟨by rw [HV.out]; rfl, rfl⟩) | exact ⟨by rw [HV.out]; rfl, rfl⟩
theorem rone_3 (a : Int) (ha : -9223372036854775808 ≤ a ∧ a ≤ 9223372036854775807) (w : World) : Calls Try.prog 19 #[.int .i64 3, .int .i64 a] w fun e w' => e = .returned (.tuple #[.int .i64 (invF a), .int .i64 0]) ∧ w = w' := by
    have HV := Lib.hid (inv_same a ha)
    have HA := Lib.hid ha
    clear ha
    go_enter Try.func19, Try.ntmps19
    go_wp2_with (first | (go_at_call 24; refine (rtruth_any _ _).mono ?_; rintro e w' ⟨rfl, rfl⟩) | (go_at_call 26; refine (rhalf_any _ HA.out _).mono ?_; rintro e w' ⟨rfl, rfl⟩))
    first | (go_ret2; exact ⟨by rw [HV.out]; rfl, rfl⟩) | exact ⟨by rw [HV.out]; rfl, rfl⟩
theorem rone_4 (a : Int) (ha : -9223372036854775808 ≤ a ∧ a ≤ 9223372036854775807) (w : World) : Calls Try.prog 19 #[.int .i64 4, .int .i64 a] w fun e w' => e = .returned (.tuple #[.int .i64 (incF a), .int .i64 0]) ∧ w = w' := by
    have HA := Lib.hid ha
    clear ha
    go_enter Try.func19, Try.ntmps19
    go_wp2_with (first | (go_at_call 24; refine (rtruth_any _ _).mono ?_; rintro e w' ⟨rfl, rfl⟩) | (go_at_call 26; refine (rhalf_any _ HA.out _).mono ?_; rintro e w' ⟨rfl, rfl⟩))
    first | (go_ret2; exact ⟨rfl, rfl⟩) | exact ⟨rfl, rfl⟩
theorem rone_5 (a : Int) (ha : -9223372036854775808 ≤ a ∧ a ≤ 9223372036854775807) (w : World) : Calls Try.prog 19 #[.int .i64 5, .int .i64 a] w fun e w' => e = .returned (.tuple #[.int .i64 (decF a), .int .i64 0]) ∧ w = w' := by
    have HA := Lib.hid ha
    clear ha
    go_enter Try.func19, Try.ntmps19
    go_wp2_with (first | (go_at_call 24; refine (rtruth_any _ _).mono ?_; rintro e w' ⟨rfl, rfl⟩) | (go_at_call 26; refine (rhalf_any _ HA.out _).mono ?_; rintro e w' ⟨rfl, rfl⟩))
    first | (go_ret2; exact ⟨rfl, rfl⟩) | exact ⟨rfl, rfl⟩
theorem rone_6 (a : Int) (ha : -9223372036854775808 ≤ a ∧ a ≤ 9223372036854775807) (w : World) : Calls Try.prog 19 #[.int .i64 6, .int .i64 a] w fun e w' => e = .returned (.tuple #[.int .i64 (twF a), .int .i64 0]) ∧ w = w' := by
    have HV := Lib.hid (show twF a = wrap64 (a + a) by unfold twF; congr 1; omega)
    have HA := Lib.hid ha
    clear ha
    go_enter Try.func19, Try.ntmps19
    go_wp2_with (first | (go_at_call 24; refine (rtruth_any _ _).mono ?_; rintro e w' ⟨rfl, rfl⟩) | (go_at_call 26; refine (rhalf_any _ HA.out _).mono ?_; rintro e w' ⟨rfl, rfl⟩))
    first | (go_ret2; exact ⟨by rw [HV.out]; rfl, rfl⟩) | exact ⟨by rw [HV.out]; rfl, rfl⟩
theorem rone_7 (a : Int) (ha : -9223372036854775808 ≤ a ∧ a ≤ 9223372036854775807) (w : World) : Calls Try.prog 19 #[.int .i64 7, .int .i64 a] w fun e w' => e = .returned (.tuple #[.int .i64 (hfF a), .int .i64 0]) ∧ w = w' := by
    have HA := Lib.hid ha
    clear ha
    go_enter Try.func19, Try.ntmps19
    go_wp2_with (first | (go_at_call 24; refine (rtruth_any _ _).mono ?_; rintro e w' ⟨rfl, rfl⟩) | (go_at_call 26; refine (rhalf_any _ HA.out _).mono ?_; rintro e w' ⟨rfl, rfl⟩))
    first | (go_ret2; exact ⟨rfl, rfl⟩) | exact ⟨rfl, rfl⟩
theorem rone_8 (a : Int) (ha : -9223372036854775808 ≤ a ∧ a ≤ 9223372036854775807) (w : World) : Calls Try.prog 19 #[.int .i64 8, .int .i64 a] w fun e w' => e = .returned (.tuple #[.int .i64 (iszF a), .int .i64 0]) ∧ w = w' := by
    have HA := Lib.hid ha
    clear ha
    go_enter Try.func19, Try.ntmps19
    go_wp2_with (first | (go_at_call 24; refine (rtruth_any _ _).mono ?_; rintro e w' ⟨rfl, rfl⟩) | (go_at_call 26; refine (rhalf_any _ HA.out _).mono ?_; rintro e w' ⟨rfl, rfl⟩))
    first | (go_ret2; exact ⟨rfl, rfl⟩) | exact ⟨rfl, rfl⟩
theorem rone_9 (a : Int) (ha : -9223372036854775808 ≤ a ∧ a ≤ 9223372036854775807) (w : World) : Calls Try.prog 19 #[.int .i64 9, .int .i64 a] w fun e w' => e = .returned (.tuple #[.int .i64 (isnF a), .int .i64 0]) ∧ w = w' := by
    have HA := Lib.hid ha
    clear ha
    go_enter Try.func19, Try.ntmps19
    go_wp2_with (first | (go_at_call 24; refine (rtruth_any _ _).mono ?_; rintro e w' ⟨rfl, rfl⟩) | (go_at_call 26; refine (rhalf_any _ HA.out _).mono ?_; rintro e w' ⟨rfl, rfl⟩))
    first | (go_ret2; exact ⟨rfl, rfl⟩) | exact ⟨rfl, rfl⟩
theorem rone_10 (a : Int) (ha : -9223372036854775808 ≤ a ∧ a ≤ 9223372036854775807) (w : World) : Calls Try.prog 19 #[.int .i64 10, .int .i64 a] w fun e w' => e = .returned (.tuple #[.int .i64 (nzF a), .int .i64 0]) ∧ w = w' := by
    have HA := Lib.hid ha
    clear ha
    go_enter Try.func19, Try.ntmps19
    go_wp2_with (first | (go_at_call 24; refine (rtruth_any _ _).mono ?_; rintro e w' ⟨rfl, rfl⟩) | (go_at_call 26; refine (rhalf_any _ HA.out _).mono ?_; rintro e w' ⟨rfl, rfl⟩))
    first | (go_ret2; exact ⟨rfl, rfl⟩) | exact ⟨rfl, rfl⟩
theorem rone_no (n a : Int) (w : World) (h : n < 1 ∨ 10 < n) : Calls Try.prog 19 #[.int .i64 n, .int .i64 a] w fun e w' => e = .returned (.tuple #[.int .i64 0, .int .i64 1]) ∧ w = w' := by
  have h1 : (n == 1) = false := by simp; omega
  have h2 : (n == 2) = false := by simp; omega
  have h3 : (n == 3) = false := by simp; omega
  have h4 : (n == 4) = false := by simp; omega
  have h5 : (n == 5) = false := by simp; omega
  have h6 : (n == 6) = false := by simp; omega
  have h7 : (n == 7) = false := by simp; omega
  have h8 : (n == 8) = false := by simp; omega
  have h9 : (n == 9) = false := by simp; omega
  have h10 : (n == 10) = false := by simp; omega
  go_enter Try.func19, Try.ntmps19
  go_wp2_with fail
  all_goals (first | (go_ret2; exact ⟨rfl, rfl⟩) | exact ⟨rfl, rfl⟩)
theorem rone_all (op a : Int) (ha : -9223372036854775808 ≤ a ∧ a ≤ 9223372036854775807) (w : World) : Calls Try.prog 19 #[.int .i64 op, .int .i64 a] w fun e w' => e = .returned (.tuple #[.int .i64 (oneF op a), .int .i64 (oneE op)]) ∧ w = w' := by
  by_cases h : op < 1 ∨ 10 < op
  · have e1 : oneF op a = 0 := by
      unfold oneF
      rw [if_neg (by omega)]
      rw [if_neg (by omega)]
      rw [if_neg (by omega)]
      rw [if_neg (by omega)]
      rw [if_neg (by omega)]
      rw [if_neg (by omega)]
      rw [if_neg (by omega)]
      rw [if_neg (by omega)]
      rw [if_neg (by omega)]
      rw [if_neg (by omega)]
    have e2 : oneE op = 1 := by unfold oneE; rw [if_pos h]
    rw [e1, e2]
    exact rone_no op a w h
  · have h' : op = 1 ∨ op = 2 ∨ op = 3 ∨ op = 4 ∨ op = 5 ∨ op = 6 ∨ op = 7 ∨ op = 8 ∨ op = 9 ∨ op = 10 := by omega
    rcases h' with rfl | rfl | rfl | rfl | rfl | rfl | rfl | rfl | rfl | rfl
    · exact rone_1 a ha w
    · exact rone_2 a ha w
    · exact rone_3 a ha w
    · exact rone_4 a ha w
    · exact rone_5 a ha w
    · exact rone_6 a ha w
    · exact rone_7 a ha w
    · exact rone_8 a ha w
    · exact rone_9 a ha w
    · exact rone_10 a ha w
end Go.Proofs.Ytbapimbjgfplhaa
