/- rhytonref01.Two, walked: it returns twoF, twoE, as cell.Two does; and CellPlays: for any number and any two cells it returns true and changes nothing that was there. -/
import Derived.Test.YtbapimbjgfplhaaRef3
namespace Go.Proofs.Ytbapimbjgfplhaa
open Go.RowKit
set_option linter.unusedVariables false
attribute [local go_sem ↓] execOp_call_slot
attribute [local go_sem] callVal_func
theorem rbits_bv (x y r : BitVec 64) (one both : Bool) (h : ∀ i, r.toNat.testBit i = bitF one both (x.toNat.testBit i) (y.toNat.testBit i)) (w : World) :
    Calls Try.prog 28 #[.int .i64 x.toInt, .int .i64 y.toInt, .bool one, .bool both] w fun e w' => e = .returned (.int .i64 r.toInt) ∧ w = w' := by
  have e : wrap64 (r.toNat : Int) = r.toInt := by rw [wrap64_bmod, BitVec.toInt_eq_toNat_bmod]
  rw [← e]
  exact rbits_any x.toNat y.toNat r.toNat one both h _ _ (u64_bv x) (u64_bv y) x.isLt y.isLt r.isLt w
theorem rand_ok (a b : Int) (ha : -9223372036854775808 ≤ a ∧ a ≤ 9223372036854775807) (hb : -9223372036854775808 ≤ b ∧ b ≤ 9223372036854775807) (w : World) :
    Calls Try.prog 28 #[.int .i64 a, .int .i64 b, .bool false, .bool true] w fun e w' => e = .returned (.int .i64 (andF a b)) ∧ w = w' := by
  obtain ⟨x, rfl⟩ := bv_of ha
  obtain ⟨y, rfl⟩ := bv_of hb
  rw [andF_bv]
  exact rbits_bv x y _ false true (fun i => by rw [BitVec.toNat_and, Nat.testBit_and]; simp [bitF]) w
theorem ror_ok (a b : Int) (ha : -9223372036854775808 ≤ a ∧ a ≤ 9223372036854775807) (hb : -9223372036854775808 ≤ b ∧ b ≤ 9223372036854775807) (w : World) :
    Calls Try.prog 28 #[.int .i64 a, .int .i64 b, .bool true, .bool true] w fun e w' => e = .returned (.int .i64 (orF a b)) ∧ w = w' := by
  obtain ⟨x, rfl⟩ := bv_of ha
  obtain ⟨y, rfl⟩ := bv_of hb
  rw [orF_bv]
  exact rbits_bv x y _ true true (fun i => by rw [BitVec.toNat_or, Nat.testBit_or]; cases x.toNat.testBit i <;> cases y.toNat.testBit i <;> rfl) w
theorem rxor_ok (a b : Int) (ha : -9223372036854775808 ≤ a ∧ a ≤ 9223372036854775807) (hb : -9223372036854775808 ≤ b ∧ b ≤ 9223372036854775807) (w : World) :
    Calls Try.prog 28 #[.int .i64 a, .int .i64 b, .bool true, .bool false] w fun e w' => e = .returned (.int .i64 (xorF a b)) ∧ w = w' := by
  obtain ⟨x, rfl⟩ := bv_of ha
  obtain ⟨y, rfl⟩ := bv_of hb
  rw [xorF_bv]
  exact rbits_bv x y _ true false (fun i => by rw [BitVec.toNat_xor, Nat.testBit_xor]; simp [bitF]) w
theorem rshl_ok (a b : Int) (ha : -9223372036854775808 ≤ a ∧ a ≤ 9223372036854775807) (hb : -9223372036854775808 ≤ b ∧ b ≤ 9223372036854775807) (w : World) :
    Calls Try.prog 29 #[.int .i64 a, .int .i64 b, .bool true] w fun e w' => e = .returned (.int .i64 (shlF a b)) ∧ w = w' := by
  obtain ⟨x, rfl⟩ := bv_of ha
  obtain ⟨y, rfl⟩ := bv_of hb
  have e : shlF x.toInt y.toInt = wrap64 ((upN x.toNat (min y.toNat 64) : Nat) : Int) := by
    unfold shlF upN
    rw [u64_bv, Int.toNat_natCast, wrap64_bmod, wrap64_bmod, BitVec.toInt_eq_toNat_bmod, Int.bmod_mul_bmod]
    generalize min y.toNat 64 = m
    have h2 : ((x.toNat * 2 ^ m % 18446744073709551616 : Nat) : Int) = ((x.toNat : Int) * 2 ^ m) % 18446744073709551616 := by
      rw [Int.natCast_emod, Int.natCast_mul, Int.natCast_pow]; rfl
    rw [h2]
    simp only [Int.bmod]
    generalize (x.toNat : Int) * 2 ^ m = z
    split <;> split <;> omega
  rw [e]
  exact rmoved_up x.toNat _ _ y.toNat (u64_bv x) (u64_bv y) y.isLt x.isLt w
theorem rshr_ok (a b : Int) (ha : -9223372036854775808 ≤ a ∧ a ≤ 9223372036854775807) (hb : -9223372036854775808 ≤ b ∧ b ≤ 9223372036854775807) (w : World) :
    Calls Try.prog 29 #[.int .i64 a, .int .i64 b, .bool false] w fun e w' => e = .returned (.int .i64 (shrF a b)) ∧ w = w' := by
  obtain ⟨x, rfl⟩ := bv_of ha
  obtain ⟨y, rfl⟩ := bv_of hb
  have e : shrF x.toInt y.toInt = wrap64 ((dnN x.toNat (min y.toNat 64) : Nat) : Int) := by
    unfold shrF dnN
    rw [u64_bv, u64_bv, Int.toNat_natCast, Int.natCast_ediv, Int.natCast_pow]; rfl
  rw [e]
  exact rmoved_dn x.toNat _ _ y.toNat (u64_bv x) (u64_bv y) y.isLt x.isLt w
theorem rtwo_11 (a b : Int) (ha : -9223372036854775808 ≤ a ∧ a ≤ 9223372036854775807) (hb : -9223372036854775808 ≤ b ∧ b ≤ 9223372036854775807) (w : World) : Calls Try.prog 20 #[.int .i64 11, .int .i64 a, .int .i64 b] w fun e w' => e = .returned (.tuple #[.int .i64 (addF a b), .int .i64 0]) ∧ w = w' := by
    have M := Lib.hid (show manyF 11 = 2 from rfl)
    clear ha hb
    go_enter Try.func20, Try.ntmps20
    go_wp2_with fail
    refine (rmany_any _ _).mono ?_
    rintro e w' ⟨rfl, rfl⟩
    rw [M.out]
    go_wp2_with fail
    all_goals (first | go_ret2 | skip)
    all_goals exact ⟨rfl, rfl⟩
theorem rtwo_12 (a b : Int) (ha : -9223372036854775808 ≤ a ∧ a ≤ 9223372036854775807) (hb : -9223372036854775808 ≤ b ∧ b ≤ 9223372036854775807) (w : World) : Calls Try.prog 20 #[.int .i64 12, .int .i64 a, .int .i64 b] w fun e w' => e = .returned (.tuple #[.int .i64 (subF a b), .int .i64 0]) ∧ w = w' := by
    have M := Lib.hid (show manyF 12 = 2 from rfl)
    clear ha hb
    go_enter Try.func20, Try.ntmps20
    go_wp2_with fail
    refine (rmany_any _ _).mono ?_
    rintro e w' ⟨rfl, rfl⟩
    rw [M.out]
    go_wp2_with fail
    all_goals (first | go_ret2 | skip)
    all_goals exact ⟨rfl, rfl⟩
theorem rtwo_13 (a b : Int) (ha : -9223372036854775808 ≤ a ∧ a ≤ 9223372036854775807) (hb : -9223372036854775808 ≤ b ∧ b ≤ 9223372036854775807) (w : World) : Calls Try.prog 20 #[.int .i64 13, .int .i64 a, .int .i64 b] w fun e w' => e = .returned (.tuple #[.int .i64 (mulF a b), .int .i64 0]) ∧ w = w' := by
    have M := Lib.hid (show manyF 13 = 2 from rfl)
    clear ha hb
    go_enter Try.func20, Try.ntmps20
    go_wp2_with fail
    refine (rmany_any _ _).mono ?_
    rintro e w' ⟨rfl, rfl⟩
    rw [M.out]
    go_wp2_with fail
    all_goals (first | go_ret2 | skip)
    all_goals exact ⟨rfl, rfl⟩
theorem rtwo_14z (a : Int) (w : World) : Calls Try.prog 20 #[.int .i64 14, .int .i64 a, .int .i64 0] w fun e w' => e = .returned (.tuple #[.int .i64 0, .int .i64 (-10)]) ∧ w = w' := by
    have M := Lib.hid (show manyF 14 = 2 from rfl)
    go_enter Try.func20, Try.ntmps20
    go_wp2_with fail
    refine (rmany_any _ _).mono ?_
    rintro e w' ⟨rfl, rfl⟩
    rw [M.out]
    go_wp2_with fail
    all_goals (first | go_ret2 | skip)
    all_goals exact ⟨rfl, rfl⟩
theorem rtwo_14 (a b : Int) (ha : -9223372036854775808 ≤ a ∧ a ≤ 9223372036854775807) (hb : -9223372036854775808 ≤ b ∧ b ≤ 9223372036854775807) (h0 : ¬ b = 0) (w : World) : Calls Try.prog 20 #[.int .i64 14, .int .i64 a, .int .i64 b] w fun e w' => e = .returned (.tuple #[.int .i64 (qF a b), .int .i64 0]) ∧ w = w' := by
    have M := Lib.hid (show manyF 14 = 2 from rfl)
    have HA := Lib.hid ha
    have HB := Lib.hid hb
    have H0 := Lib.hid h0
    have hz : (b == 0) = false := by simpa using h0
    clear ha hb
    go_enter Try.func20, Try.ntmps20
    go_wp2_with fail
    refine (rmany_any _ _).mono ?_
    rintro e w' ⟨rfl, rfl⟩
    rw [M.out]
    go_wp2_with (first | (go_at_call 27; refine (rdiv_any _ _ HA.out HB.out H0.out _).mono ?_; rintro e w' ⟨rfl, rfl⟩))
    all_goals (first | go_ret2 | skip)
    all_goals exact ⟨rfl, rfl⟩
theorem rtwo_15z (a : Int) (w : World) : Calls Try.prog 20 #[.int .i64 15, .int .i64 a, .int .i64 0] w fun e w' => e = .returned (.tuple #[.int .i64 0, .int .i64 (-10)]) ∧ w = w' := by
    have M := Lib.hid (show manyF 15 = 2 from rfl)
    go_enter Try.func20, Try.ntmps20
    go_wp2_with fail
    refine (rmany_any _ _).mono ?_
    rintro e w' ⟨rfl, rfl⟩
    rw [M.out]
    go_wp2_with fail
    all_goals (first | go_ret2 | skip)
    all_goals exact ⟨rfl, rfl⟩
theorem rtwo_15 (a b : Int) (ha : -9223372036854775808 ≤ a ∧ a ≤ 9223372036854775807) (hb : -9223372036854775808 ≤ b ∧ b ≤ 9223372036854775807) (h0 : ¬ b = 0) (w : World) : Calls Try.prog 20 #[.int .i64 15, .int .i64 a, .int .i64 b] w fun e w' => e = .returned (.tuple #[.int .i64 (rF a b), .int .i64 0]) ∧ w = w' := by
    have M := Lib.hid (show manyF 15 = 2 from rfl)
    have HA := Lib.hid ha
    have HB := Lib.hid hb
    have H0 := Lib.hid h0
    have hz : (b == 0) = false := by simpa using h0
    clear ha hb
    go_enter Try.func20, Try.ntmps20
    go_wp2_with fail
    refine (rmany_any _ _).mono ?_
    rintro e w' ⟨rfl, rfl⟩
    rw [M.out]
    go_wp2_with (first | (go_at_call 27; refine (rdiv_any _ _ HA.out HB.out H0.out _).mono ?_; rintro e w' ⟨rfl, rfl⟩))
    all_goals (first | go_ret2 | skip)
    all_goals exact ⟨rfl, rfl⟩
theorem rtwo_16 (a b : Int) (ha : -9223372036854775808 ≤ a ∧ a ≤ 9223372036854775807) (hb : -9223372036854775808 ≤ b ∧ b ≤ 9223372036854775807) (w : World) : Calls Try.prog 20 #[.int .i64 16, .int .i64 a, .int .i64 b] w fun e w' => e = .returned (.tuple #[.int .i64 (andF a b), .int .i64 0]) ∧ w = w' := by
    have M := Lib.hid (show manyF 16 = 2 from rfl)
    have K := Lib.hid (fun w => rand_ok a b ha hb w)
    clear ha hb
    go_enter Try.func20, Try.ntmps20
    go_wp2_with fail
    refine (rmany_any _ _).mono ?_
    rintro e w' ⟨rfl, rfl⟩
    rw [M.out]
    go_wp2_with (go_at_call 28; refine (K.out _).mono ?_; rintro e w' ⟨rfl, rfl⟩)
    all_goals (first | go_ret2 | skip)
    all_goals exact ⟨rfl, rfl⟩
theorem rtwo_17 (a b : Int) (ha : -9223372036854775808 ≤ a ∧ a ≤ 9223372036854775807) (hb : -9223372036854775808 ≤ b ∧ b ≤ 9223372036854775807) (w : World) : Calls Try.prog 20 #[.int .i64 17, .int .i64 a, .int .i64 b] w fun e w' => e = .returned (.tuple #[.int .i64 (orF a b), .int .i64 0]) ∧ w = w' := by
    have M := Lib.hid (show manyF 17 = 2 from rfl)
    have K := Lib.hid (fun w => ror_ok a b ha hb w)
    clear ha hb
    go_enter Try.func20, Try.ntmps20
    go_wp2_with fail
    refine (rmany_any _ _).mono ?_
    rintro e w' ⟨rfl, rfl⟩
    rw [M.out]
    go_wp2_with (go_at_call 28; refine (K.out _).mono ?_; rintro e w' ⟨rfl, rfl⟩)
    all_goals (first | go_ret2 | skip)
    all_goals exact ⟨rfl, rfl⟩
theorem rtwo_18 (a b : Int) (ha : -9223372036854775808 ≤ a ∧ a ≤ 9223372036854775807) (hb : -9223372036854775808 ≤ b ∧ b ≤ 9223372036854775807) (w : World) : Calls Try.prog 20 #[.int .i64 18, .int .i64 a, .int .i64 b] w fun e w' => e = .returned (.tuple #[.int .i64 (xorF a b), .int .i64 0]) ∧ w = w' := by
    have M := Lib.hid (show manyF 18 = 2 from rfl)
    have K := Lib.hid (fun w => rxor_ok a b ha hb w)
    clear ha hb
    go_enter Try.func20, Try.ntmps20
    go_wp2_with fail
    refine (rmany_any _ _).mono ?_
    rintro e w' ⟨rfl, rfl⟩
    rw [M.out]
    go_wp2_with (go_at_call 28; refine (K.out _).mono ?_; rintro e w' ⟨rfl, rfl⟩)
    all_goals (first | go_ret2 | skip)
    all_goals exact ⟨rfl, rfl⟩
theorem rtwo_19 (a b : Int) (ha : -9223372036854775808 ≤ a ∧ a ≤ 9223372036854775807) (hb : -9223372036854775808 ≤ b ∧ b ≤ 9223372036854775807) (w : World) : Calls Try.prog 20 #[.int .i64 19, .int .i64 a, .int .i64 b] w fun e w' => e = .returned (.tuple #[.int .i64 (shlF a b), .int .i64 0]) ∧ w = w' := by
    have M := Lib.hid (show manyF 19 = 2 from rfl)
    have K := Lib.hid (fun w => rshl_ok a b ha hb w)
    clear ha hb
    go_enter Try.func20, Try.ntmps20
    go_wp2_with fail
    refine (rmany_any _ _).mono ?_
    rintro e w' ⟨rfl, rfl⟩
    rw [M.out]
    go_wp2_with (go_at_call 29; refine (K.out _).mono ?_; rintro e w' ⟨rfl, rfl⟩)
    all_goals (first | go_ret2 | skip)
    all_goals exact ⟨rfl, rfl⟩
theorem rtwo_20 (a b : Int) (ha : -9223372036854775808 ≤ a ∧ a ≤ 9223372036854775807) (hb : -9223372036854775808 ≤ b ∧ b ≤ 9223372036854775807) (w : World) : Calls Try.prog 20 #[.int .i64 20, .int .i64 a, .int .i64 b] w fun e w' => e = .returned (.tuple #[.int .i64 (shrF a b), .int .i64 0]) ∧ w = w' := by
    have M := Lib.hid (show manyF 20 = 2 from rfl)
    have K := Lib.hid (fun w => rshr_ok a b ha hb w)
    clear ha hb
    go_enter Try.func20, Try.ntmps20
    go_wp2_with fail
    refine (rmany_any _ _).mono ?_
    rintro e w' ⟨rfl, rfl⟩
    rw [M.out]
    go_wp2_with (go_at_call 29; refine (K.out _).mono ?_; rintro e w' ⟨rfl, rfl⟩)
    all_goals (first | go_ret2 | skip)
    all_goals exact ⟨rfl, rfl⟩
theorem rtwo_21 (a b : Int) (ha : -9223372036854775808 ≤ a ∧ a ≤ 9223372036854775807) (hb : -9223372036854775808 ≤ b ∧ b ≤ 9223372036854775807) (w : World) : Calls Try.prog 20 #[.int .i64 21, .int .i64 a, .int .i64 b] w fun e w' => e = .returned (.tuple #[.int .i64 (eqF a b), .int .i64 0]) ∧ w = w' := by
    have M := Lib.hid (show manyF 21 = 2 from rfl)
    have K := Lib.hid (fun w => rcmp_21 a b w)
    clear ha hb
    go_enter Try.func20, Try.ntmps20
    go_wp2_with fail
    refine (rmany_any _ _).mono ?_
    rintro e w' ⟨rfl, rfl⟩
    rw [M.out]
    go_wp2_with (go_at_call 30; refine (K.out _).mono ?_; rintro e w' ⟨rfl, rfl⟩)
    all_goals (first | go_ret2 | skip)
    all_goals exact ⟨rfl, rfl⟩
theorem rtwo_22 (a b : Int) (ha : -9223372036854775808 ≤ a ∧ a ≤ 9223372036854775807) (hb : -9223372036854775808 ≤ b ∧ b ≤ 9223372036854775807) (w : World) : Calls Try.prog 20 #[.int .i64 22, .int .i64 a, .int .i64 b] w fun e w' => e = .returned (.tuple #[.int .i64 (neF a b), .int .i64 0]) ∧ w = w' := by
    have M := Lib.hid (show manyF 22 = 2 from rfl)
    have K := Lib.hid (fun w => rcmp_22 a b w)
    clear ha hb
    go_enter Try.func20, Try.ntmps20
    go_wp2_with fail
    refine (rmany_any _ _).mono ?_
    rintro e w' ⟨rfl, rfl⟩
    rw [M.out]
    go_wp2_with (go_at_call 30; refine (K.out _).mono ?_; rintro e w' ⟨rfl, rfl⟩)
    all_goals (first | go_ret2 | skip)
    all_goals exact ⟨rfl, rfl⟩
theorem rtwo_23 (a b : Int) (ha : -9223372036854775808 ≤ a ∧ a ≤ 9223372036854775807) (hb : -9223372036854775808 ≤ b ∧ b ≤ 9223372036854775807) (w : World) : Calls Try.prog 20 #[.int .i64 23, .int .i64 a, .int .i64 b] w fun e w' => e = .returned (.tuple #[.int .i64 (ltF a b), .int .i64 0]) ∧ w = w' := by
    have M := Lib.hid (show manyF 23 = 2 from rfl)
    have K := Lib.hid (fun w => rcmp_23 a b w)
    clear ha hb
    go_enter Try.func20, Try.ntmps20
    go_wp2_with fail
    refine (rmany_any _ _).mono ?_
    rintro e w' ⟨rfl, rfl⟩
    rw [M.out]
    go_wp2_with (go_at_call 30; refine (K.out _).mono ?_; rintro e w' ⟨rfl, rfl⟩)
    all_goals (first | go_ret2 | skip)
    all_goals exact ⟨rfl, rfl⟩
theorem rtwo_24 (a b : Int) (ha : -9223372036854775808 ≤ a ∧ a ≤ 9223372036854775807) (hb : -9223372036854775808 ≤ b ∧ b ≤ 9223372036854775807) (w : World) : Calls Try.prog 20 #[.int .i64 24, .int .i64 a, .int .i64 b] w fun e w' => e = .returned (.tuple #[.int .i64 (gtF a b), .int .i64 0]) ∧ w = w' := by
    have M := Lib.hid (show manyF 24 = 2 from rfl)
    have K := Lib.hid (fun w => rcmp_24 a b w)
    clear ha hb
    go_enter Try.func20, Try.ntmps20
    go_wp2_with fail
    refine (rmany_any _ _).mono ?_
    rintro e w' ⟨rfl, rfl⟩
    rw [M.out]
    go_wp2_with (go_at_call 30; refine (K.out _).mono ?_; rintro e w' ⟨rfl, rfl⟩)
    all_goals (first | go_ret2 | skip)
    all_goals exact ⟨rfl, rfl⟩
theorem rtwo_25 (a b : Int) (ha : -9223372036854775808 ≤ a ∧ a ≤ 9223372036854775807) (hb : -9223372036854775808 ≤ b ∧ b ≤ 9223372036854775807) (w : World) : Calls Try.prog 20 #[.int .i64 25, .int .i64 a, .int .i64 b] w fun e w' => e = .returned (.tuple #[.int .i64 (ultF a b), .int .i64 0]) ∧ w = w' := by
    have M := Lib.hid (show manyF 25 = 2 from rfl)
    have K := Lib.hid (fun w => rcmp_25 a b ha hb w)
    clear ha hb
    go_enter Try.func20, Try.ntmps20
    go_wp2_with fail
    refine (rmany_any _ _).mono ?_
    rintro e w' ⟨rfl, rfl⟩
    rw [M.out]
    go_wp2_with (go_at_call 30; refine (K.out _).mono ?_; rintro e w' ⟨rfl, rfl⟩)
    all_goals (first | go_ret2 | skip)
    all_goals exact ⟨rfl, rfl⟩
theorem rtwo_26 (a b : Int) (ha : -9223372036854775808 ≤ a ∧ a ≤ 9223372036854775807) (hb : -9223372036854775808 ≤ b ∧ b ≤ 9223372036854775807) (w : World) : Calls Try.prog 20 #[.int .i64 26, .int .i64 a, .int .i64 b] w fun e w' => e = .returned (.tuple #[.int .i64 (minF a b), .int .i64 0]) ∧ w = w' := by
    have M := Lib.hid (show manyF 26 = 2 from rfl)
    have K := Lib.hid (fun w => rcmp_26 a b w)
    clear ha hb
    go_enter Try.func20, Try.ntmps20
    go_wp2_with fail
    refine (rmany_any _ _).mono ?_
    rintro e w' ⟨rfl, rfl⟩
    rw [M.out]
    go_wp2_with (go_at_call 30; refine (K.out _).mono ?_; rintro e w' ⟨rfl, rfl⟩)
    all_goals (first | go_ret2 | skip)
    all_goals exact ⟨rfl, rfl⟩
theorem rtwo_27 (a b : Int) (ha : -9223372036854775808 ≤ a ∧ a ≤ 9223372036854775807) (hb : -9223372036854775808 ≤ b ∧ b ≤ 9223372036854775807) (w : World) : Calls Try.prog 20 #[.int .i64 27, .int .i64 a, .int .i64 b] w fun e w' => e = .returned (.tuple #[.int .i64 (maxF a b), .int .i64 0]) ∧ w = w' := by
    have M := Lib.hid (show manyF 27 = 2 from rfl)
    have K := Lib.hid (fun w => rcmp_27 a b w)
    clear ha hb
    go_enter Try.func20, Try.ntmps20
    go_wp2_with fail
    refine (rmany_any _ _).mono ?_
    rintro e w' ⟨rfl, rfl⟩
    rw [M.out]
    go_wp2_with (go_at_call 30; refine (K.out _).mono ?_; rintro e w' ⟨rfl, rfl⟩)
    all_goals (first | go_ret2 | skip)
    all_goals exact ⟨rfl, rfl⟩
theorem rtwo_no (n a b : Int) (w : World) (h : n < 11 ∨ 27 < n) : Calls Try.prog 20 #[.int .i64 n, .int .i64 a, .int .i64 b] w fun e w' => e = .returned (.tuple #[.int .i64 0, .int .i64 1]) ∧ w = w' := by
  have M : (manyF n != 2) = true := by
    have : manyF n ≠ 2 := by unfold manyF; split <;> (try split) <;> omega
    simpa using this
  go_enter Try.func20, Try.ntmps20
  go_wp2_with fail
  refine (rmany_any _ _).mono ?_
  rintro e w' ⟨rfl, rfl⟩
  go_wp2_with fail
  all_goals (first | go_ret2 | skip)
  all_goals exact ⟨rfl, rfl⟩
theorem rtwo_all (op a b : Int) (ha : -9223372036854775808 ≤ a ∧ a ≤ 9223372036854775807) (hb : -9223372036854775808 ≤ b ∧ b ≤ 9223372036854775807) (w : World) : Calls Try.prog 20 #[.int .i64 op, .int .i64 a, .int .i64 b] w fun e w' => e = .returned (.tuple #[.int .i64 (twoF op a b), .int .i64 (twoE op b)]) ∧ w = w' := by
  by_cases h : op < 11 ∨ 27 < op
  · have e1 : twoF op a b = 0 := by
      unfold twoF
      rw [if_neg (by omega)]
      rw [if_neg (by omega)]
      rw [if_neg (by omega)]
      rw [if_neg (by omega)]
      rw [if_neg (by omega)]
      rw [if_neg (by omega)]
      rw [if_neg (by omega)]
      rw [if_neg (by omega)]
      rw [if_neg (by omega)]
      rw [if_neg (by omega)]
      rw [if_neg (by omega)]
      rw [if_neg (by omega)]
      rw [if_neg (by omega)]
      rw [if_neg (by omega)]
      rw [if_neg (by omega)]
      rw [if_neg (by omega)]
      rw [if_neg (by omega)]
    have e2 : twoE op b = 1 := by unfold twoE; rw [if_pos h]
    rw [e1, e2]
    exact rtwo_no op a b w h
  · have h' : op = 11 ∨ op = 12 ∨ op = 13 ∨ op = 14 ∨ op = 15 ∨ op = 16 ∨ op = 17 ∨ op = 18 ∨ op = 19 ∨ op = 20 ∨ op = 21 ∨ op = 22 ∨ op = 23 ∨ op = 24 ∨ op = 25 ∨ op = 26 ∨ op = 27 := by omega
    rcases h' with rfl | rfl | rfl | rfl | rfl | rfl | rfl | rfl | rfl | rfl | rfl | rfl | rfl | rfl | rfl | rfl | rfl
    · have e1 : twoF 11 a b = addF a b := by simp [twoF]
      have e2 : twoE 11 b = 0 := by simp [twoE]
      rw [e1, e2]
      exact rtwo_11 a b ha hb w
    · have e1 : twoF 12 a b = subF a b := by simp [twoF]
      have e2 : twoE 12 b = 0 := by simp [twoE]
      rw [e1, e2]
      exact rtwo_12 a b ha hb w
    · have e1 : twoF 13 a b = mulF a b := by simp [twoF]
      have e2 : twoE 13 b = 0 := by simp [twoE]
      rw [e1, e2]
      exact rtwo_13 a b ha hb w
    · by_cases hz : b = 0
      · subst hz
        exact rtwo_14z a w
      · have e1 : twoF 14 a b = qF a b := by simp [twoF, hz]
        have e2 : twoE 14 b = 0 := by simp [twoE, hz]
        rw [e1, e2]
        exact rtwo_14 a b ha hb hz w
    · by_cases hz : b = 0
      · subst hz
        exact rtwo_15z a w
      · have e1 : twoF 15 a b = rF a b := by simp [twoF, hz]
        have e2 : twoE 15 b = 0 := by simp [twoE, hz]
        rw [e1, e2]
        exact rtwo_15 a b ha hb hz w
    · have e1 : twoF 16 a b = andF a b := by simp [twoF]
      have e2 : twoE 16 b = 0 := by simp [twoE]
      rw [e1, e2]
      exact rtwo_16 a b ha hb w
    · have e1 : twoF 17 a b = orF a b := by simp [twoF]
      have e2 : twoE 17 b = 0 := by simp [twoE]
      rw [e1, e2]
      exact rtwo_17 a b ha hb w
    · have e1 : twoF 18 a b = xorF a b := by simp [twoF]
      have e2 : twoE 18 b = 0 := by simp [twoE]
      rw [e1, e2]
      exact rtwo_18 a b ha hb w
    · have e1 : twoF 19 a b = shlF a b := by simp [twoF]
      have e2 : twoE 19 b = 0 := by simp [twoE]
      rw [e1, e2]
      exact rtwo_19 a b ha hb w
    · have e1 : twoF 20 a b = shrF a b := by simp [twoF]
      have e2 : twoE 20 b = 0 := by simp [twoE]
      rw [e1, e2]
      exact rtwo_20 a b ha hb w
    · have e1 : twoF 21 a b = eqF a b := by simp [twoF]
      have e2 : twoE 21 b = 0 := by simp [twoE]
      rw [e1, e2]
      exact rtwo_21 a b ha hb w
    · have e1 : twoF 22 a b = neF a b := by simp [twoF]
      have e2 : twoE 22 b = 0 := by simp [twoE]
      rw [e1, e2]
      exact rtwo_22 a b ha hb w
    · have e1 : twoF 23 a b = ltF a b := by simp [twoF]
      have e2 : twoE 23 b = 0 := by simp [twoE]
      rw [e1, e2]
      exact rtwo_23 a b ha hb w
    · have e1 : twoF 24 a b = gtF a b := by simp [twoF]
      have e2 : twoE 24 b = 0 := by simp [twoE]
      rw [e1, e2]
      exact rtwo_24 a b ha hb w
    · have e1 : twoF 25 a b = ultF a b := by simp [twoF]
      have e2 : twoE 25 b = 0 := by simp [twoE]
      rw [e1, e2]
      exact rtwo_25 a b ha hb w
    · have e1 : twoF 26 a b = minF a b := by simp [twoF]
      have e2 : twoE 26 b = 0 := by simp [twoE]
      rw [e1, e2]
      exact rtwo_26 a b ha hb w
    · have e1 : twoF 27 a b = maxF a b := by simp [twoF]
      have e2 : twoE 27 b = 0 := by simp [twoE]
      rw [e1, e2]
      exact rtwo_27 a b ha hb w
set_option maxHeartbeats 1000000 in
theorem walk_CellPlays (op a b : Int) (_hop : (Lit.int .i64 op).wf = true) (ha : (Lit.int .i64 a).wf = true) (hb : (Lit.int .i64 b).wf = true) (W : World) :
    Calls Try.prog 9 #[.int .i64 op, .int .i64 a, .int .i64 b] W fun e w' => e = .returned (.bool true) ∧ Below W.heap.size W w' := by
  have hB := Below.refl W.heap.size W
  have HA := Lib.hid (wf_lo ha)
  have HB := Lib.hid (wf_lo hb)
  clear ha hb
  go_enter Try.func9, Try.ntmps9
  try simp only [List.append]
  go_wp2_with (first | (go_at_call 10; refine (shown_ok W _ hB).mono ?_; clear hB; rintro e w' ⟨rfl, hB⟩) | (go_at_call 16; refine (one_any W _ _ _ hB).mono ?_; clear hB; rintro e w' ⟨rfl, hB⟩) | (go_at_call 11; refine (two_any W _ _ _ _ hB).mono ?_; clear hB; rintro e w' ⟨rfl, hB⟩) | (go_at_call 19; refine (rone_all _ _ HA.out _).mono ?_; rintro e w' ⟨rfl, rfl⟩) | (go_at_call 20; refine (rtwo_all _ _ _ HA.out HB.out _).mono ?_; rintro e w' ⟨rfl, rfl⟩) | (go_at_call 21; refine (many_any _ _).mono ?_; rintro e w' ⟨rfl, rfl⟩) | (go_at_call 22; refine (rmany_any _ _).mono ?_; rintro e w' ⟨rfl, rfl⟩) | (go_at_call 23; refine (truth_any _ _).mono ?_; rintro e w' ⟨rfl, rfl⟩) | (go_at_call 24; refine (rtruth_any _ _).mono ?_; rintro e w' ⟨rfl, rfl⟩))
  go_ret
  exact ⟨rfl, by assumption⟩
end Go.Proofs.Ytbapimbjgfplhaa
