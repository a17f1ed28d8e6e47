/- The walk of CellCarries: for any cells they return true and change nothing that was there. -/
import Derived.Test.YtbapimbjgfplhaaPlain
import Derived.Test.YtbapimbjgfplhaaFast
namespace Go.Proofs.Ytbapimbjgfplhaa
open Go.RowKit
attribute [local go_sem ↓] execOp_call_slot
attribute [local go_sem] callVal_func
theorem tw11 (a b : Int) : twoF 11 a b = addF a b := by simp [twoF]
theorem tw12 (a b : Int) : twoF 12 a b = subF a b := by simp [twoF]
theorem tw13 (a b : Int) : twoF 13 a b = mulF a b := by simp [twoF]
theorem tw16 (a b : Int) : twoF 16 a b = andF a b := by simp [twoF]
theorem tw17 (a b : Int) : twoF 17 a b = orF a b := by simp [twoF]
theorem tw18 (a b : Int) : twoF 18 a b = xorF a b := by simp [twoF]
theorem tw19 (a b : Int) : twoF 19 a b = shlF a b := by simp [twoF]
theorem tw20 (a b : Int) : twoF 20 a b = shrF a b := by simp [twoF]
theorem tw21 (a b : Int) : twoF 21 a b = eqF a b := by simp [twoF]
theorem tw22 (a b : Int) : twoF 22 a b = neF a b := by simp [twoF]
theorem tw23 (a b : Int) : twoF 23 a b = ltF a b := by simp [twoF]
theorem tw24 (a b : Int) : twoF 24 a b = gtF a b := by simp [twoF]
theorem tw25 (a b : Int) : twoF 25 a b = ultF a b := by simp [twoF]
theorem tw26 (a b : Int) : twoF 26 a b = minF a b := by simp [twoF]
theorem tw27 (a b : Int) : twoF 27 a b = maxF a b := by simp [twoF]
theorem carries_facts (a b c : Int) (ha : (Lit.int .i64 a).wf = true) (hb : (Lit.int .i64 b).wf = true) (hc : (Lit.int .i64 c).wf = true) :
    (twoF 11 a b == twoF 11 b a) = true ∧ (twoF 12 (twoF 11 a b) b == a) = true ∧ (twoF 12 a b == wrap64 (-(twoF 12 b a))) = true ∧ (twoF 13 a b == twoF 13 b a) = true ∧
    (twoF 13 (twoF 11 a b) c == twoF 11 (twoF 13 a c) (twoF 13 b c)) = true ∧ (twoF 13 (twoF 13 a b) c == twoF 13 a (twoF 13 b c)) = true ∧ (twoF 13 a 1 == a) = true ∧ (twoF 11 a 0 == a) = true := by
  obtain ⟨x, rfl⟩ := wf_bv ha
  obtain ⟨y, rfl⟩ := wf_bv hb
  obtain ⟨z, rfl⟩ := wf_bv hc
  have e1 : (1 : Int) = (1#64).toInt := by decide
  have e0 : (0 : Int) = (0#64).toInt := by decide
  have en : ∀ v : BitVec 64, wrap64 (-v.toInt) = (-v).toInt := fun v => negF_bv v
  simp only [tw11, tw12, tw13]
  rw [e1, e0]
  simp only [addF_bv, subF_bv, mulF_bv, en]
  refine ⟨beq_of (BitVec.add_comm _ _), beq_of ?_, beq_of ?_, beq_of (BitVec.mul_comm _ _), beq_of (BitVec.add_mul), beq_of (BitVec.mul_assoc _ _ _), beq_of (by simp), beq_of (by simp)⟩
  · exact BitVec.add_sub_cancel _ _
  · rw [BitVec.neg_sub, BitVec.sub_eq_add_neg, BitVec.add_comm]
set_option maxHeartbeats 1000000 in
theorem walk_CellCarries (a b c : Int) (ha : (Lit.int .i64 a).wf = true) (hb : (Lit.int .i64 b).wf = true) (hc : (Lit.int .i64 c).wf = true) (W : World) :
    Calls Try.prog 5 #[.int .i64 a, .int .i64 b, .int .i64 c] W fun e w' => e = .returned (.bool true) ∧ Below W.heap.size W w' := by
  have hB0 := Below.refl W.heap.size W
  obtain ⟨h1, h2, h3, h4, h5, h6, h7, h8⟩ := carries_facts a b c ha hb hc
  clear ha hb hc
  go_enter Try.func5, Try.ntmps5
  simp only [List.append]
  go_wp2_with (first | (go_at_call 10; refine (shown_ok W _ hB0).mono ?_; clear hB0; rintro e w' ⟨rfl, hB⟩) | (go_at_call 13; refine (clo13 W _ _ _ _ hB).mono ?_; clear hB; rintro e w' ⟨rfl, hB⟩))
  go_ret
  exact ⟨rfl, by assumption⟩
end Go.Proofs.Ytbapimbjgfplhaa
