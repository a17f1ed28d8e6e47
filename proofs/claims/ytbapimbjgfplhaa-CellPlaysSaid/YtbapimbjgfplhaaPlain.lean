/- Plain laws of numbers of 64 bits: what the words of cell.Two and cell.One compute, said of bit vectors; no program. Conditions: each lemma's own. -/
import Derived.Test.YtbapimbjgfplhaaAny
namespace Go.Proofs.Ytbapimbjgfplhaa
open Go.RowKit
theorem wf_lo {a : Int} (h : (Lit.int .i64 a).wf = true) : -9223372036854775808 ≤ a ∧ a ≤ 9223372036854775807 := by
  have hmin : IntKind.i64.min = -9223372036854775808 := rfl
  have hmax : IntKind.i64.max = 9223372036854775807 := rfl
  simp only [Lit.wf, Bool.and_eq_true, decide_eq_true_eq, hmin, hmax] at h
  exact h
theorem bv_of {a : Int} (h : -9223372036854775808 ≤ a ∧ a ≤ 9223372036854775807) : ∃ x : BitVec 64, x.toInt = a :=
  ⟨BitVec.ofInt 64 a, by rw [BitVec.toInt_ofInt]; simp only [Int.bmod]; split <;> omega⟩
theorem wrap64_bmod (n : Int) : wrap64 n = n.bmod (2 ^ 64) := by
  unfold wrap64; simp only [Int.bmod]; split <;> omega
theorem wrap64_toInt (n : Int) : wrap64 n = (BitVec.ofInt 64 n).toInt := by rw [wrap64_bmod, BitVec.toInt_ofInt]
theorem ofInt_toInt (x : BitVec 64) : BitVec.ofInt 64 x.toInt = x := by simp
theorem bits_and (x y : BitVec 64) : bits .and .i64 x.toInt y.toInt = (x &&& y).toInt := by
  show IntKind.i64.wrap ((BitVec.ofInt 64 x.toInt &&& BitVec.ofInt 64 y.toInt).toNat : Int) = _
  rw [ofInt_toInt, ofInt_toInt, IntWalk.i64_left, wrap64_bmod, BitVec.toInt_eq_toNat_bmod]
theorem bits_or (x y : BitVec 64) : bits .or .i64 x.toInt y.toInt = (x ||| y).toInt := by
  show IntKind.i64.wrap ((BitVec.ofInt 64 x.toInt ||| BitVec.ofInt 64 y.toInt).toNat : Int) = _
  rw [ofInt_toInt, ofInt_toInt, IntWalk.i64_left, wrap64_bmod, BitVec.toInt_eq_toNat_bmod]
theorem bits_xor (x y : BitVec 64) : bits .xor .i64 x.toInt y.toInt = (x ^^^ y).toInt := by
  show IntKind.i64.wrap ((BitVec.ofInt 64 x.toInt ^^^ BitVec.ofInt 64 y.toInt).toNat : Int) = _
  rw [ofInt_toInt, ofInt_toInt, IntWalk.i64_left, wrap64_bmod, BitVec.toInt_eq_toNat_bmod]
theorem addF_bv (x y : BitVec 64) : addF x.toInt y.toInt = (x + y).toInt := by rw [addF, wrap64_bmod, BitVec.toInt_add]
theorem subF_bv (x y : BitVec 64) : subF x.toInt y.toInt = (x - y).toInt := by rw [subF, wrap64_bmod, BitVec.toInt_sub]
theorem mulF_bv (x y : BitVec 64) : mulF x.toInt y.toInt = (x * y).toInt := by rw [mulF, wrap64_bmod, BitVec.toInt_mul]
theorem andF_bv (x y : BitVec 64) : andF x.toInt y.toInt = (x &&& y).toInt := bits_and x y
theorem orF_bv (x y : BitVec 64) : orF x.toInt y.toInt = (x ||| y).toInt := bits_or x y
theorem xorF_bv (x y : BitVec 64) : xorF x.toInt y.toInt = (x ^^^ y).toInt := bits_xor x y
theorem negF_bv (x : BitVec 64) : negF x.toInt = (-x).toInt := by rw [negF, wrap64_bmod, BitVec.toInt_neg]
theorem u64_bv (x : BitVec 64) : IntKind.u64.wrap x.toInt = (x.toNat : Int) := by
  rw [IntKind.wrap_u64, BitVec.toInt_eq_toNat_bmod]
  have := x.isLt
  simp only [Int.bmod]; split <;> omega
theorem shlF_bv (x y : BitVec 64) : shlF x.toInt y.toInt = (x <<< y.toNat).toInt := by
  rw [shlF, u64_bv, Int.toNat_natCast, wrap64_bmod]
  by_cases hy : y.toNat ≤ 64
  · rw [Nat.min_eq_left hy, BitVec.toInt_shiftLeft, Nat.shiftLeft_eq, BitVec.toInt_eq_toNat_bmod, Int.bmod_mul_bmod, Int.natCast_mul, Int.natCast_pow]
    rfl
  · rw [Nat.min_eq_right (by omega), BitVec.shiftLeft_eq_zero (by omega)]
    simp only [BitVec.toInt_zero, Int.bmod]; split <;> omega
theorem shrF_bv (x y : BitVec 64) : shrF x.toInt y.toInt = (x >>> y.toNat).toInt := by
  rw [shrF, u64_bv, u64_bv, Int.toNat_natCast, wrap64_bmod, BitVec.toInt_eq_toNat_bmod, BitVec.toNat_ushiftRight, Nat.shiftRight_eq_div_pow]
  have hx := x.isLt
  by_cases hy : y.toNat ≤ 64
  · rw [Nat.min_eq_left hy]; simp
  · rw [Nat.min_eq_right (by omega), Nat.div_eq_of_lt (show x.toNat < 2 ^ y.toNat from Nat.lt_of_lt_of_le hx (Nat.pow_le_pow_right (by omega) (by omega)))]
    have e : (x.toNat : Int) / 2 ^ 64 = 0 := by omega
    rw [e]; rfl
theorem eqF_bv (x y : BitVec 64) : eqF x.toInt y.toInt = truth (x == y) := by
  unfold eqF; congr 1; rw [Bool.eq_iff_iff]; simp [BitVec.toInt_inj]
theorem neF_bv (x y : BitVec 64) : neF x.toInt y.toInt = truth (x != y) := by
  unfold neF; congr 1; rw [Bool.eq_iff_iff]; simp [BitVec.toInt_inj]
theorem beq_bv (x y : BitVec 64) : (x.toInt == y.toInt) = (x == y) := by rw [Bool.eq_iff_iff]; simp [BitVec.toInt_inj]
theorem beq_of {x y : BitVec 64} (h : x = y) : (x.toInt == y.toInt) = true := by simp [h]
theorem wf_bv {a : Int} (h : (Lit.int .i64 a).wf = true) : ∃ x : BitVec 64, x.toInt = a := bv_of (wf_lo h)
-- the quotient and what is left
theorem neg_msb (x : BitVec 64) : x.toInt < 0 ↔ x.msb = true := by rw [BitVec.msb_eq_toInt]; simp
theorem xor_neg (x y : BitVec 64) : bits .xor .i64 x.toInt y.toInt < 0 ↔ ¬ (x.toInt < 0 ↔ y.toInt < 0) := by
  rw [bits_xor, neg_msb, neg_msb, neg_msb, BitVec.msb_xor]
  cases x.msb <;> cases y.msb <;> simp
theorem xor_sign (a b : Int) (ha : -9223372036854775808 ≤ a ∧ a ≤ 9223372036854775807) (hb : -9223372036854775808 ≤ b ∧ b ≤ 9223372036854775807) :
    bits .xor .i64 a b < 0 ↔ ¬ (a < 0 ↔ b < 0) := by
  obtain ⟨x, rfl⟩ := bv_of ha
  obtain ⟨y, rfl⟩ := bv_of hb
  exact xor_neg x y
theorem tmod_bd (a b : Int) (h0 : ¬ b = 0) :
    (0 ≤ a → 0 ≤ a.tmod b ∧ (0 < b → a.tmod b < b) ∧ (b < 0 → a.tmod b < -b)) ∧ (a ≤ 0 → a.tmod b ≤ 0 ∧ (0 < b → - b < a.tmod b) ∧ (b < 0 → b < a.tmod b)) := by
  have h : (a.tmod b).natAbs < b.natAbs := by rw [Int.natAbs_tmod]; exact Nat.mod_lt _ (by omega)
  constructor
  · intro ha
    have := Int.tmod_nonneg b ha
    omega
  · intro ha
    have h2 := Int.tmod_nonneg b (show 0 ≤ -a by omega)
    rw [Int.neg_tmod] at h2
    omega
theorem wrap64_ex (n : Int) : ∃ k : Int, wrap64 n = n + 18446744073709551616 * k := ⟨-((n + 9223372036854775808) / 18446744073709551616), by unfold wrap64; omega⟩
theorem wrap64_at (a k : Int) (ha : -9223372036854775808 ≤ a ∧ a ≤ 9223372036854775807) : wrap64 (a + 18446744073709551616 * k) = a := by unfold wrap64; omega
theorem put_back (a b q r Q R : Int) (ha : -9223372036854775808 ≤ a ∧ a ≤ 9223372036854775807) (h : q * b + r = a) (hQ : ∃ k, Q = q + 18446744073709551616 * k) (hR : ∃ k, R = r + 18446744073709551616 * k) :
    addF (mulF Q b) R = a := by
  obtain ⟨k1, rfl⟩ := hQ
  obtain ⟨k2, rfl⟩ := hR
  unfold addF mulF
  obtain ⟨k3, h3⟩ := wrap64_ex ((q + 18446744073709551616 * k1) * b)
  rw [h3]
  have e : (q + 18446744073709551616 * k1) * b + 18446744073709551616 * k3 + (r + 18446744073709551616 * k2) = a + 18446744073709551616 * (k1 * b + k3 + k2) := by
    rw [← h, Int.add_mul, Int.mul_assoc]; omega
  rw [e]
  exact wrap64_at a _ ha
theorem divides (a b : Int) (ha : -9223372036854775808 ≤ a ∧ a ≤ 9223372036854775807) (hb : -9223372036854775808 ≤ b ∧ b ≤ 9223372036854775807) (h0 : ¬ b = 0) :
    addF (mulF (qF a b) b) (rF a b) = a ∧ ((0 ≤ rF a b ∧ rF a b < b) ∨ (rF a b ≤ 0 ∧ b < rF a b)) := by
  have hd : a.tdiv b * b + a.tmod b = a := by rw [Int.mul_comm]; exact Int.mul_tdiv_add_tmod a b
  have hb1 := tmod_bd a b h0
  have hr : -9223372036854775808 ≤ a.tmod b ∧ a.tmod b ≤ 9223372036854775807 := by omega
  have hx := xor_sign (a.tmod b) b hr hb
  unfold qF rF
  by_cases hc : (a.tmod b != 0) = true ∧ bits .xor .i64 (a.tmod b) b < 0
  · rw [if_pos hc, if_pos hc]
    obtain ⟨h1, h2⟩ := hc
    have h1 : a.tmod b ≠ 0 := by simpa using h1
    rw [hx] at h2
    have e : wrap64 (a.tmod b + b) = a.tmod b + b := by unfold wrap64; omega
    refine ⟨put_back a b (a.tdiv b - 1) (a.tmod b + b) _ _ ha ?_ ?_ ⟨0, by omega⟩, by omega⟩
    · rw [Int.sub_mul]; omega
    · obtain ⟨k, hk⟩ := wrap64_ex (a.tdiv b)
      obtain ⟨k', hk'⟩ := wrap64_ex (wrap64 (a.tdiv b) - 1)
      exact ⟨k + k', by omega⟩
  · rw [if_neg hc, if_neg hc]
    refine ⟨put_back a b _ _ _ _ ha hd (wrap64_ex _) ⟨0, by omega⟩, ?_⟩
    by_cases h1 : a.tmod b = 0
    · omega
    · have h2 : ¬ bits .xor .i64 (a.tmod b) b < 0 := fun h => hc ⟨by simpa using h1, h⟩
      rw [hx] at h2
      omega
end Go.Proofs.Ytbapimbjgfplhaa
