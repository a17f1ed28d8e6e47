/- The reference's loops over bits, walked: bits puts two cells together bit by bit, moved moves bits. Conditions: what the result's bits are (HR), resp. none. -/
import Derived.Test.YtbapimbjgfplhaaRef
namespace Go.Proofs.Ytbapimbjgfplhaa
open Go.RowKit
def bitF (one both p q : Bool) : Bool := (xor p q && one) || (p && q && both)
theorem mod_step (R k : Nat) : R % 2 ^ (k + 1) = R % 2 ^ k + 2 ^ k * (R.testBit k).toNat := by
  rw [Nat.mod_pow_succ, Nat.testBit_eq_decide_div_mod_eq]
  rcases Nat.mod_two_eq_zero_or_one (R / 2 ^ k) with h | h <;> rw [h] <;> simp
theorem div_step (X k : Nat) : X / 2 ^ (k + 1) = X / 2 ^ k / 2 := by rw [Nat.pow_succ, Nat.div_div_eq_div_mul]
theorem bit_at (X k : Nat) : X.testBit k = decide (X / 2 ^ k % 2 = 1) := Nat.testBit_eq_decide_div_mod_eq
theorem out_step (o k : Nat) (ho : o < 2 ^ k) (hk : k < 64) : IntKind.u64.wrap ((o : Int) + IntKind.u64.wrap (2 ^ k)) = ((o + 2 ^ k : Nat) : Int) := by
  have h2 : 2 ^ k ≤ 2 ^ 63 := Nat.pow_le_pow_right (by omega) (by omega)
  have e : (2 : Int) ^ k = ((2 ^ k : Nat) : Int) := by simp
  rw [e]
  generalize 2 ^ k = m at *
  rw [IntWalk.u64_in (m : Int) (by omega), IntWalk.u64_in _ (by omega)]
  omega
theorem val_u64 {x y : Int} (h : x = y) : Value.int .u64 x = Value.int .u64 y := by rw [h]
theorem rbits_any (X Y R : Nat) (one both : Bool) (HR : ∀ i, R.testBit i = bitF one both (X.testBit i) (Y.testBit i)) (a b : Int) (ha : IntKind.u64.wrap a = (X : Int)) (hb : IntKind.u64.wrap b = (Y : Int))
    (hX : X < 18446744073709551616) (hY : Y < 18446744073709551616) (hR : R < 18446744073709551616) (w : World) :
    Calls Try.prog 28 #[.int .i64 a, .int .i64 b, .bool one, .bool both] w fun e w' => e = .returned (.int .i64 (wrap64 R)) ∧ w = w' := by
  have hX' := Lib.hid hX
  have hY' := Lib.hid hY
  have hR' := Lib.hid hR
  have HR' := Lib.hid HR
  clear hX hY hR HR
  go_enter Try.func28, Try.ntmps28
  go_wp2
  have HA := Lib.hid ha
  have HB := Lib.hid hb
  clear ha hb
  go_loop [9, 10, 11, 12] (fun x y out i => ∃ k : Nat, k ≤ 64 ∧ i = .int .i64 k ∧ x = .int .u64 ((X / 2 ^ k : Nat) : Int) ∧ y = .int .u64 ((Y / 2 ^ k : Nat) : Int) ∧ out = .int .u64 ((R % 2 ^ k : Nat) : Int)) (fun _ _ _ i => 64 - (intOf i).toNat)
  case atStart => exact ⟨0, by omega, rfl, by simp, by simp, by simp [Nat.mod_one]⟩
  case round =>
    obtain ⟨k, hk, rfl, rfl, rfl, rfl⟩ := hrel
    have p1 : X / 2 ^ k < 18446744073709551616 := Nat.lt_of_le_of_lt (Nat.div_le_self _ _) hX'.out
    have q1 : Y / 2 ^ k < 18446744073709551616 := Nat.lt_of_le_of_lt (Nat.div_le_self _ _) hY'.out
    have HO := Lib.hid (show R % 2 ^ k < 2 ^ k from Nat.mod_lt _ (Nat.two_pow_pos k))
    by_cases hlt : k < 64
    · have HS := Lib.hid (mod_step R k)
      have HT := Lib.hid (HR'.out k)
      have HX := Lib.hid (div_step X k)
      have HY := Lib.hid (div_step Y k)
      have bx := Lib.hid (bit_at X k)
      have bY := Lib.hid (bit_at Y k)
      generalize X / 2 ^ k = p at *
      generalize Y / 2 ^ k = q at *
      generalize R % 2 ^ k = o at *
      have HW := Lib.hid (out_step o k HO.out hlt)
      rcases Nat.mod_two_eq_zero_or_one p with hp | hp <;> rcases Nat.mod_two_eq_zero_or_one q with hq | hq
      all_goals
        have HE := Lib.hid (show R.testBit k = bitF one both (decide (p % 2 = 1)) (decide (q % 2 = 1)) by rw [HT.out, bx.out, bY.out])
        rw [hp, hq] at HE
        have hp1 : (p : Int) % 2 ≤ 1 := by omega
        have hq1 : (q : Int) % 2 ≤ 1 := by omega
        have hp0 : 0 ≤ (p : Int) % 2 := by omega
        have hq0 : 0 ≤ (q : Int) % 2 := by omega
      · have h1 : (p : Int) % 2 ≤ 0 := by omega
        have h2 : (q : Int) % 2 ≤ 0 := by omega
        clear hp hq
        go_wp2
        go_round
        case rel => exact ⟨k + 1, by omega, by go_num, val_u64 (by rw [HX.out]; simp), val_u64 (by rw [HY.out]; simp), val_u64 (by rw [HS.out, HE.out]; simp [bitF])⟩
        case measure => simp [intOf]; omega
      · have h1 : (p : Int) % 2 ≤ 0 := by omega
        have h2 : 1 ≤ (q : Int) % 2 := by omega
        clear hp hq
        cases one
        all_goals
          go_wp2
          go_round
          case rel => exact ⟨k + 1, by omega, by go_num, val_u64 (by rw [HX.out]; simp), val_u64 (by rw [HY.out]; simp), val_u64 (by rw [HS.out, HE.out]; first | (rw [HW.out]; simp [bitF]) | simp [bitF])⟩
          case measure => simp [intOf]; omega
      · have h1 : 1 ≤ (p : Int) % 2 := by omega
        have h2 : (q : Int) % 2 ≤ 0 := by omega
        clear hp hq
        cases one
        all_goals
          go_wp2
          go_round
          case rel => exact ⟨k + 1, by omega, by go_num, val_u64 (by rw [HX.out]; simp), val_u64 (by rw [HY.out]; simp), val_u64 (by rw [HS.out, HE.out]; first | (rw [HW.out]; simp [bitF]) | simp [bitF])⟩
          case measure => simp [intOf]; omega
      · have h1 : 1 ≤ (p : Int) % 2 := by omega
        have h2 : 1 ≤ (q : Int) % 2 := by omega
        clear hp hq
        cases both
        all_goals
          go_wp2
          go_round
          case rel => exact ⟨k + 1, by omega, by go_num, val_u64 (by rw [HX.out]; simp), val_u64 (by rw [HY.out]; simp), val_u64 (by rw [HS.out, HE.out]; first | (rw [HW.out]; simp [bitF]) | simp [bitF])⟩
          case measure => simp [intOf]; omega
    · have hk2 : k = 64 := by omega
      subst hk2
      have HM := Lib.hid (show R % 2 ^ 64 = R from Nat.mod_eq_of_lt hR'.out)
      generalize X / 2 ^ 64 = p at *
      generalize Y / 2 ^ 64 = q at *
      generalize hM : R % 2 ^ 64 = o at *
      have HM2 := Lib.hid hM
      clear hM hlt
      go_wp2
      go_ret
      exact ⟨by rw [← HM.out]; rfl, rfl⟩
def upN (X k : Nat) : Nat := X * 2 ^ k % 18446744073709551616
def dnN (X k : Nat) : Nat := X / 2 ^ k
theorem upN_lt (X k : Nat) (_h : X < 18446744073709551616) : upN X k < 18446744073709551616 := Nat.mod_lt _ (by omega)
theorem dnN_lt (X k : Nat) (h : X < 18446744073709551616) : dnN X k < 18446744073709551616 := Nat.lt_of_le_of_lt (Nat.div_le_self _ _) h
theorem upN_step (X k : Nat) : upN X (k + 1) = upN X k * 2 % 18446744073709551616 := by
  unfold upN; rw [Nat.pow_succ, ← Nat.mul_assoc]; omega
theorem dnN_step (X k : Nat) : dnN X (k + 1) = dnN X k / 2 := by
  unfold dnN; exact div_step X k
theorem rmoved_up (X : Nat) (a b : Int) (n : Nat) (ha : IntKind.u64.wrap a = (X : Int)) (hb : IntKind.u64.wrap b = (n : Int)) (hn : n < 18446744073709551616) (hX : X < 18446744073709551616) (w : World) :
    Calls Try.prog 29 #[.int .i64 a, .int .i64 b, .bool true] w fun e w' => e = .returned (.int .i64 (wrap64 (upN X (min n 64) : Nat))) ∧ w = w' := by
  have H0 := Lib.hid (show X = upN X 0 by unfold upN; omega)
  have HL := Lib.hid (fun k => upN_lt X k hX)
  have HS := Lib.hid (upN_step X)
  clear hX
  go_enter Try.func29, Try.ntmps29
  go_wp2
  have HA := Lib.hid ha
  have HB := Lib.hid hb
  clear ha hb
  go_loop [7, 9] (fun x i => ∃ k : Nat, k ≤ n ∧ k ≤ 64 ∧ i = .int .u64 k ∧ x = .int .u64 ((upN X k : Nat) : Int)) (fun _ i => 64 - (intOf i).toNat)
  case atStart => exact ⟨0, by omega, by omega, rfl, val_u64 (by rw [← H0.out])⟩
  case round =>
    obtain ⟨k, hk, hk2, rfl, rfl⟩ := hrel
    have hl := HL.out k
    by_cases h1 : k < n
    · by_cases h2 : k < 64
      · have HK := Lib.hid (HS.out k)
        generalize upN X k = p at *
        go_wp2
        go_round
        case rel => exact ⟨k + 1, by omega, by omega, rfl, val_u64 (by rw [HK.out]; rw [IntKind.wrap_u64]; omega)⟩
        case measure => simp [intOf]; omega
      · have HM := Lib.hid (show upN X k = upN X (min n 64) by congr 1; omega)
        generalize upN X k = p at *
        have h3 : ¬ (k : Int) < 64 := by omega
        go_wp2
        go_ret
        exact ⟨by rw [← HM.out]; rfl, rfl⟩
    · have HM := Lib.hid (show upN X k = upN X (min n 64) by congr 1; omega)
      generalize upN X k = p at *
      have h3 : ¬ (k : Int) < n := by omega
      go_wp2
      go_ret
      exact ⟨by rw [← HM.out]; rfl, rfl⟩
theorem rmoved_dn (X : Nat) (a b : Int) (n : Nat) (ha : IntKind.u64.wrap a = (X : Int)) (hb : IntKind.u64.wrap b = (n : Int)) (hn : n < 18446744073709551616) (hX : X < 18446744073709551616) (w : World) :
    Calls Try.prog 29 #[.int .i64 a, .int .i64 b, .bool false] w fun e w' => e = .returned (.int .i64 (wrap64 (dnN X (min n 64) : Nat))) ∧ w = w' := by
  have H0 := Lib.hid (show X = dnN X 0 by unfold dnN; omega)
  have HL := Lib.hid (fun k => dnN_lt X k hX)
  have HS := Lib.hid (dnN_step X)
  clear hX
  go_enter Try.func29, Try.ntmps29
  go_wp2
  have HA := Lib.hid ha
  have HB := Lib.hid hb
  clear ha hb
  go_loop [7, 9] (fun x i => ∃ k : Nat, k ≤ n ∧ k ≤ 64 ∧ i = .int .u64 k ∧ x = .int .u64 ((dnN X k : Nat) : Int)) (fun _ i => 64 - (intOf i).toNat)
  case atStart => exact ⟨0, by omega, by omega, rfl, val_u64 (by rw [← H0.out])⟩
  case round =>
    obtain ⟨k, hk, hk2, rfl, rfl⟩ := hrel
    have hl := HL.out k
    by_cases h1 : k < n
    · by_cases h2 : k < 64
      · have HK := Lib.hid (HS.out k)
        generalize dnN X k = p at *
        go_wp2
        go_round
        case rel => exact ⟨k + 1, by omega, by omega, rfl, val_u64 (by rw [HK.out]; omega)⟩
        case measure => simp [intOf]; omega
      · have HM := Lib.hid (show dnN X k = dnN X (min n 64) by congr 1; omega)
        generalize dnN X k = p at *
        have h3 : ¬ (k : Int) < 64 := by omega
        go_wp2
        go_ret
        exact ⟨by rw [← HM.out]; rfl, rfl⟩
    · have HM := Lib.hid (show dnN X k = dnN X (min n 64) by congr 1; omega)
      generalize dnN X k = p at *
      have h3 : ¬ (k : Int) < n := by omega
      go_wp2
      go_ret
      exact ⟨by rw [← HM.out]; rfl, rfl⟩
end Go.Proofs.Ytbapimbjgfplhaa
