/- The walk of CellOrders: for any cells it returns true and changes nothing that was there. -/
import Derived.Test.YtbapimbjgfplhaaFive
namespace Go.Proofs.Ytbapimbjgfplhaa
open Go.RowKit
attribute [local go_sem ↓] execOp_call_slot
attribute [local go_sem] callVal_func
theorem truth_cases (x y : Int) : truth (decide (x < y)) + truth (decide (y < x)) + truth (x == y) = -1 := by
  rcases Int.lt_trichotomy x y with h | h | h
  · have h2 : ¬ y < x := by omega
    have h3 : (x == y) = false := by simp; omega
    simp [truth, h, h2, h3]
  · subst h; simp [truth]
  · have h2 : ¬ x < y := by omega
    have h3 : (x == y) = false := by simp; omega
    simp [truth, h, h2, h3]
theorem truth_01 (b : Bool) : truth b = 0 ∨ truth b = -1 := by cases b <;> simp [truth]
theorem top_bv : (-9223372036854775808 : Int) = (BitVec.intMin 64).toInt := by decide
theorem disj_top (x : BitVec 64) (h : x.msb = false) : x &&& BitVec.intMin 64 = 0#64 := by
  apply BitVec.eq_of_getLsbD_eq
  intro i hi
  rw [BitVec.getLsbD_and, BitVec.getLsbD_intMin]
  by_cases e : i + 1 = 64
  · have : i = 63 := by omega
    subst this
    rw [BitVec.msb_eq_getLsbD_last] at h
    have h' : x.getLsbD 63 = false := h
    simp only [h', Bool.false_and, BitVec.getLsbD_zero]
  · simp [e]
theorem xor_top0 (x : BitVec 64) (h : x.msb = false) : x ^^^ BitVec.intMin 64 = x + BitVec.intMin 64 := by
  rw [BitVec.add_eq_or_of_and_eq_zero _ _ (disj_top x h)]
  apply BitVec.eq_of_getLsbD_eq
  intro i hi
  have hd := congrArg (fun v => v.getLsbD i) (disj_top x h)
  simp only [BitVec.getLsbD_and, BitVec.getLsbD_zero] at hd
  rw [BitVec.getLsbD_xor, BitVec.getLsbD_or]
  revert hd
  cases x.getLsbD i <;> cases (BitVec.intMin 64).getLsbD i <;> simp
theorem xor_top (x : BitVec 64) : x ^^^ BitVec.intMin 64 = x + BitVec.intMin 64 := by
  by_cases h : x.msb = false
  · exact xor_top0 x h
  · have h1 : (x ^^^ BitVec.intMin 64).msb = false := by
      rw [BitVec.msb_xor]
      have : (BitVec.intMin 64).msb = true := by decide
      rw [this]; simpa using h
    have h2 := xor_top0 _ h1
    rw [BitVec.xor_assoc, BitVec.xor_self, BitVec.xor_zero] at h2
    have h3 : BitVec.intMin 64 + BitVec.intMin 64 = 0#64 := by decide
    have h4 : x + BitVec.intMin 64 = x ^^^ BitVec.intMin 64 := by
      rw [h2, BitVec.add_assoc, h3, BitVec.add_zero, ← h2]
    exact h4.symm
theorem turned (x : BitVec 64) : (x ^^^ BitVec.intMin 64).toInt = (x.toNat : Int) - 9223372036854775808 := by
  rw [xor_top, BitVec.toInt_eq_toNat_bmod, BitVec.toNat_add]
  have := x.isLt
  have h : (BitVec.intMin 64).toNat = 9223372036854775808 := by decide
  rw [h]
  simp only [Int.bmod]; split <;> omega
theorem orders_facts (a b : Int) (ha : (Lit.int .i64 a).wf = true) (hb : (Lit.int .i64 b).wf = true) :
    (wrap64 (wrap64 (twoF 23 a b + twoF 24 a b) + twoF 21 a b) == -1) = true ∧ (twoF 22 a b == wrap64 (-1 - twoF 21 a b)) = true ∧ twoF 26 a b ≤ twoF 27 a b ∧
    (((twoF 26 a b == a) = true ∧ (twoF 27 a b == b) = true) ∨ ((twoF 26 a b == a) = false ∧ (twoF 26 a b == b) = true ∧ (twoF 27 a b == a) = true)) ∧
    (twoF 25 a b == twoF 23 (bits .xor .i64 a (-9223372036854775808)) (bits .xor .i64 b (-9223372036854775808))) = true ∧ (twoF 24 a b == twoF 23 b a) = true := by
  simp only [tw21, tw22, tw23, tw24, tw25, tw26, tw27]
  have t1 := truth_01 (decide (a < b))
  have t2 := truth_01 (decide (b < a))
  have t3 := truth_01 (a == b)
  have tc := truth_cases a b
  refine ⟨?_, ?_, ?_, ?_, ?_, ?_⟩
  · unfold ltF gtF eqF
    rw [IntWalk.wrap64_in _ (by rw [IntWalk.wrap64_in _ (by omega)]; omega), IntWalk.wrap64_in _ (by omega), tc]; rfl
  · unfold neF eqF
    rw [IntWalk.wrap64_in _ (by omega)]
    by_cases h : a = b <;> simp [truth, h]
  · unfold minF maxF; split <;> split <;> omega
  · unfold minF maxF
    by_cases h : b < a
    · right
      have h2 : ¬ a < b := by omega
      have h3 : ¬ b = a := by omega
      simp_all
    · left
      by_cases h2 : a < b
      · simp [h, h2]
      · have h3 : a = b := by omega
        simp_all
  · obtain ⟨x, rfl⟩ := wf_bv ha
    obtain ⟨y, rfl⟩ := wf_bv hb
    rw [top_bv, bits_xor, bits_xor]
    unfold ultF ltF
    rw [u64_bv, u64_bv]
    have h : ((x.toNat : Int) < (y.toNat : Int)) ↔ (x ^^^ BitVec.intMin 64).toInt < (y ^^^ BitVec.intMin 64).toInt := by
      rw [turned x, turned y]; omega
    simp [h]
  · unfold gtF ltF; simp
set_option maxHeartbeats 2000000 in
theorem walk_CellOrders (a b : Int) (ha : (Lit.int .i64 a).wf = true) (hb : (Lit.int .i64 b).wf = true) (W : World) :
    Calls Try.prog 4 #[.int .i64 a, .int .i64 b] W fun e w' => e = .returned (.bool true) ∧ Below W.heap.size W w' := by
  have hB0 := Below.refl W.heap.size W
  have H := Lib.hid (orders_facts a b ha hb)
  clear ha hb
  go_enter Try.func4, Try.ntmps4
  simp only [List.append]
  go_wp2_with fail
  refine (shown_ok W _ (by assumption)).mono ?_
  rintro e w' ⟨rfl, hB⟩
  clear hB0
  go_wp2_with fail
  have HH := H.out
  clear H
  generalize (-9223372036854775808 : Int) = top at *
  obtain ⟨h1, h2, h3, h4, h5, h6⟩ := HH
  rcases h4 with ⟨h7, h8⟩ | ⟨h7, h8, h9⟩
  · go_wp2_with (go_at_call 12; refine (clo12 W _ _ _ _ hB).mono ?_; clear hB; rintro e w' ⟨rfl, hB⟩)
    go_ret
    exact ⟨rfl, by assumption⟩
  · go_wp2_with (go_at_call 12; refine (clo12 W _ _ _ _ hB).mono ?_; clear hB; rintro e w' ⟨rfl, hB⟩)
    go_ret
    exact ⟨rfl, by assumption⟩
end Go.Proofs.Ytbapimbjgfplhaa
