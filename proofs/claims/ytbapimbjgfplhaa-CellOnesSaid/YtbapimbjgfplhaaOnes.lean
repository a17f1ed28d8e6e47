/- The walk of CellOnes: for any cell it returns true and changes nothing that was there. -/
import Derived.Test.YtbapimbjgfplhaaOrders
namespace Go.Proofs.Ytbapimbjgfplhaa
open Go.RowKit
attribute [local go_sem ↓] execOp_call_slot
attribute [local go_sem] callVal_func
theorem bne_of {x y : Int} (h : x = y) : (x != y) = false := by simp [h]
theorem half_two (a : Int) (ha : -9223372036854775808 ≤ a ∧ a ≤ 9223372036854775807) : qF a 2 = a / 2 := by
  have hr := tmod_bd a 2 (by decide)
  have hx := xor_sign (a.tmod 2) 2 (by omega) (by omega)
  have hd := Int.mul_tdiv_add_tmod a 2
  unfold qF
  by_cases h : (a.tmod 2 != 0) = true ∧ bits .xor .i64 (a.tmod 2) 2 < 0
  · rw [if_pos h]
    obtain ⟨h1, h2⟩ := h
    rw [hx] at h2
    rw [IntWalk.wrap64_in (a.tdiv 2) (by omega), IntWalk.wrap64_in _ (by omega)]
    omega
  · rw [if_neg h]
    rw [IntWalk.wrap64_in (a.tdiv 2) (by omega)]
    by_cases h1 : a.tmod 2 = 0
    · omega
    · have h2 : ¬ bits .xor .i64 (a.tmod 2) 2 < 0 := fun hh => h ⟨by simpa using h1, hh⟩
      rw [hx] at h2
      omega
theorem ones_facts (a : Int) (ha : (Lit.int .i64 a).wf = true) :
    (oneF 1 a != twoF 12 0 a) = false ∧ (oneF 3 a != twoF 18 a (-1)) = false ∧ (oneF 4 a != twoF 11 a 1) = false ∧ (oneF 5 a != twoF 12 a 1) = false ∧ (oneF 6 a != twoF 13 a 2) = false ∧ (oneF 7 a != twoF 14 a 2) = false := by
  have hl := wf_lo ha
  have t14 : twoF 14 a 2 = qF a 2 := by simp [twoF]
  simp only [tw11, tw12, tw13, tw18, t14]
  have o1 : oneF 1 a = negF a := by simp [oneF]
  have o3 : oneF 3 a = invF a := by simp [oneF]
  have o4 : oneF 4 a = incF a := by simp [oneF]
  have o5 : oneF 5 a = decF a := by simp [oneF]
  have o6 : oneF 6 a = twF a := by simp [oneF]
  have o7 : oneF 7 a = hfF a := by simp [oneF]
  rw [o1, o3, o4, o5, o6, o7]
  refine ⟨bne_of ?_, bne_of ?_, bne_of rfl, bne_of rfl, bne_of rfl, bne_of (half_two a hl).symm⟩
  · unfold negF subF; congr 1; omega
  · obtain ⟨x, rfl⟩ := wf_bv ha
    have e : (-1 : Int) = (BitVec.allOnes 64).toInt := by decide
    unfold invF xorF
    rw [e, bits_xor, bits_xor, BitVec.xor_comm]
theorem ones_facts2 (a : Int) (ha : (Lit.int .i64 a).wf = true) :
    ((oneF 7 (oneF 6 a) == a) = true ∨ (oneF 7 (oneF 6 a) == a) = false ∧ (oneF 7 (oneF 6 a) == bits .xor .i64 a (-9223372036854775808)) = true) ∧
    (oneF 8 a == twoF 21 a 0) = true ∧ (oneF 10 a == twoF 22 a 0) = true ∧ (oneF 9 a == twoF 23 a 0) = true ∧
    ((oneF 2 a == a) = true ∨ (oneF 2 a == a) = false ∧ (oneF 2 a == wrap64 (-a)) = true) ∧
    (0 ≤ oneF 2 a ∨ ¬ 0 ≤ oneF 2 a ∧ (a == -9223372036854775808) = true) := by
  have hl := wf_lo ha
  have o2 : oneF 2 a = absF a := by simp [oneF]
  have o6 : oneF 6 a = twF a := by simp [oneF]
  have o7 : ∀ a, oneF 7 a = hfF a := fun a => by simp [oneF]
  have o8 : oneF 8 a = iszF a := by simp [oneF]
  have o9 : oneF 9 a = isnF a := by simp [oneF]
  have o10 : oneF 10 a = nzF a := by simp [oneF]
  simp only [tw21, tw22, tw23]
  rw [o2, o6, o7, o8, o9, o10]
  refine ⟨?_, by simp [iszF, eqF], by simp [nzF, neF], by simp [isnF, ltF], ?_, ?_⟩
  · have h1 : bits .xor .i64 a (-9223372036854775808) = if 0 ≤ a then a - 9223372036854775808 else a + 9223372036854775808 := by
      obtain ⟨x, rfl⟩ := wf_bv ha
      rw [top_bv, bits_xor, turned]
      have hx := x.isLt
      rw [BitVec.toInt_eq_toNat_bmod]
      simp only [Int.bmod]
      repeat' split
      all_goals omega
    rw [h1]
    unfold hfF twF wrap64
    by_cases h : (a * 2 + 9223372036854775808) % 18446744073709551616 - 9223372036854775808 = a * 2
    · left; rw [h]; simp
    · right
      constructor
      · simp; omega
      · simp; split <;> omega
  · unfold absF
    by_cases h : a < 0
    · by_cases h2 : wrap64 (-a) = a
      · left; simp [h, h2]
      · right; simp [h, h2]
    · left; simp [h]
  · unfold absF
    by_cases h : a < 0
    · by_cases h2 : a = -9223372036854775808
      · right; subst h2; decide +kernel
      · left; simp only [h, if_true]; rw [IntWalk.wrap64_in _ (by omega)]; omega
    · left; simp only [h, if_false]; omega
set_option maxHeartbeats 2000000 in
theorem walk_CellOnes (a : Int) (ha : (Lit.int .i64 a).wf = true) (W : World) :
    Calls Try.prog 8 #[.int .i64 a] W fun e w' => e = .returned (.bool true) ∧ Below W.heap.size W w' := by
  have hB0 := Below.refl W.heap.size W
  obtain ⟨h1, h2, h3, h4, h5, h6⟩ := ones_facts a ha
  have H := Lib.hid (ones_facts2 a ha)
  have f1 : (oneE 11 == 1) = true := by decide
  have f2 : (twoE 1 a == 1) = true := by simp [twoE]
  clear ha
  go_enter Try.func8, Try.ntmps8
  simp only [List.append]
  go_wp2_with fail
  refine (shown_ok W _ hB0).mono ?_
  clear hB0
  rintro e w' ⟨rfl, hB⟩
  iterate 14 (go_wp2_with fail; first | ((with_reducible refine (one_any W _ _ _ hB).mono ?_); clear hB; rintro e w' ⟨rfl, hB⟩) | ((with_reducible refine (two_any W _ _ _ _ hB).mono ?_); clear hB; rintro e w' ⟨rfl, hB⟩) | ((with_reducible refine (clo17 W _ _ _ hB).mono ?_); clear hB; rintro e w' ⟨rfl, hB⟩) | ((with_reducible refine (clo18 W _ _ _ _ hB).mono ?_); clear hB; rintro e w' ⟨rfl, hB⟩))
  go_wp2_with fail
  clear h1 h2 h3 h4 h5 h6
  refine (clo17 W _ _ _ hB).mono ?_
  clear hB
  rintro e w' ⟨rfl, hB⟩
  go_wp2_with fail
  have HH := H.out
  clear H
  generalize (-9223372036854775808 : Int) = top at *
  obtain ⟨g1, g2, g3, g4, g5, g6⟩ := HH
  rcases g1 with g1 | ⟨g1, g7⟩ <;> rcases g5 with g5 | ⟨g5, g8⟩ <;> rcases g6 with g6 | ⟨g6, g9⟩
  all_goals
    go_wp2_with (first | (go_at_call 17; refine (clo17 W _ _ _ hB).mono ?_; clear hB; rintro e w' ⟨rfl, hB⟩) | (go_at_call 18; refine (clo18 W _ _ _ _ hB).mono ?_; clear hB; rintro e w' ⟨rfl, hB⟩))
    go_ret
    exact ⟨rfl, by assumption⟩
end Go.Proofs.Ytbapimbjgfplhaa
