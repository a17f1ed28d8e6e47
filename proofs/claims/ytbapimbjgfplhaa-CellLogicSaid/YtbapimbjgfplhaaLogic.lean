/- The walk of CellLogic: for any three cells it returns true and changes nothing that was there. -/
import Derived.Test.YtbapimbjgfplhaaFive
namespace Go.Proofs.Ytbapimbjgfplhaa
open Go.RowKit
attribute [local go_sem ↓] execOp_call_slot
attribute [local go_sem] callVal_func
theorem on3 (x : BitVec 64) : oneF 3 x.toInt = (~~~x).toInt := by
  have e : (-1 : Int) = (BitVec.allOnes 64).toInt := by decide
  have h : oneF 3 x.toInt = invF x.toInt := by simp [oneF]
  rw [h, invF, e, bits_xor]
  congr 1
theorem disj_sum (x y : BitVec 64) : (x ^^^ y) + (x &&& y) = x ||| y := by
  have h : (x ^^^ y) &&& (x &&& y) = 0#64 := by
    apply BitVec.eq_of_getLsbD_eq
    intro i hi
    simp only [BitVec.getLsbD_and, BitVec.getLsbD_xor, BitVec.getLsbD_zero]
    cases x.getLsbD i <;> cases y.getLsbD i <;> rfl
  rw [BitVec.add_eq_or_of_and_eq_zero _ _ h]
  apply BitVec.eq_of_getLsbD_eq
  intro i hi
  simp only [BitVec.getLsbD_and, BitVec.getLsbD_xor, BitVec.getLsbD_or]
  cases x.getLsbD i <;> cases y.getLsbD i <;> rfl
theorem disj_part (x y : BitVec 64) : (x &&& ~~~y) + (x &&& y) = x ∧ (x &&& ~~~y) + y = x ||| y := by
  have h1 : (x &&& ~~~y) &&& (x &&& y) = 0#64 := by
    apply BitVec.eq_of_getLsbD_eq
    intro i hi
    simp only [BitVec.getLsbD_and, BitVec.getLsbD_not, BitVec.getLsbD_zero, hi, decide_true, Bool.true_and]
    cases x.getLsbD i <;> cases y.getLsbD i <;> rfl
  have h2 : (x &&& ~~~y) &&& y = 0#64 := by
    apply BitVec.eq_of_getLsbD_eq
    intro i hi
    simp only [BitVec.getLsbD_and, BitVec.getLsbD_not, BitVec.getLsbD_zero, hi, decide_true, Bool.true_and]
    cases x.getLsbD i <;> cases y.getLsbD i <;> rfl
  constructor
  · rw [BitVec.add_eq_or_of_and_eq_zero _ _ h1]
    apply BitVec.eq_of_getLsbD_eq
    intro i hi
    simp only [BitVec.getLsbD_and, BitVec.getLsbD_not, BitVec.getLsbD_or, hi, decide_true, Bool.true_and]
    cases x.getLsbD i <;> cases y.getLsbD i <;> rfl
  · rw [BitVec.add_eq_or_of_and_eq_zero _ _ h2]
    apply BitVec.eq_of_getLsbD_eq
    intro i hi
    simp only [BitVec.getLsbD_and, BitVec.getLsbD_not, BitVec.getLsbD_or, hi, decide_true, Bool.true_and]
    cases x.getLsbD i <;> cases y.getLsbD i <;> rfl
theorem logic_facts (a b c : Int) (ha : (Lit.int .i64 a).wf = true) (hb : (Lit.int .i64 b).wf = true) (hc : (Lit.int .i64 c).wf = true) :
    (oneF 3 (twoF 17 a b) == twoF 16 (oneF 3 a) (oneF 3 b)) = true ∧ (oneF 3 (oneF 3 a) == a) = true ∧ (twoF 18 a b == twoF 12 (twoF 17 a b) (twoF 16 a b)) = true ∧
    (twoF 16 (twoF 17 a b) c == twoF 17 (twoF 16 a c) (twoF 16 b c)) = true ∧ (twoF 18 (twoF 18 a b) b == a) = true ∧ (twoF 11 (twoF 16 a b) (twoF 17 a b) == twoF 11 a b) = true := by
  obtain ⟨x, rfl⟩ := wf_bv ha
  obtain ⟨y, rfl⟩ := wf_bv hb
  obtain ⟨z, rfl⟩ := wf_bv hc
  simp only [tw11, tw12, tw16, tw17, tw18, addF_bv, subF_bv, andF_bv, orF_bv, xorF_bv, on3]
  refine ⟨beq_of ?_, beq_of ?_, beq_of ?_, beq_of ?_, beq_of ?_, beq_of ?_⟩
  · rw [BitVec.not_or]
  · simp
  · have h := disj_sum x y
    rw [← h]
    exact (BitVec.add_sub_cancel _ _).symm
  · apply BitVec.eq_of_getLsbD_eq
    intro i hi
    simp only [BitVec.getLsbD_and, BitVec.getLsbD_or]
    cases x.getLsbD i <;> cases y.getLsbD i <;> cases z.getLsbD i <;> rfl
  · rw [BitVec.xor_assoc, BitVec.xor_self, BitVec.xor_zero]
  · obtain ⟨h1, h2⟩ := disj_part x y
    rw [← h2, ← BitVec.add_assoc, BitVec.add_comm (x &&& y), h1]
set_option maxHeartbeats 2000000 in
theorem walk_CellLogic (a b c : Int) (ha : (Lit.int .i64 a).wf = true) (hb : (Lit.int .i64 b).wf = true) (hc : (Lit.int .i64 c).wf = true) (W : World) :
    Calls Try.prog 6 #[.int .i64 a, .int .i64 b, .int .i64 c] W fun e w' => e = .returned (.bool true) ∧ Below W.heap.size W w' := by
  have hB0 := Below.refl W.heap.size W
  obtain ⟨h1, h2, h3, h4, h5, h6⟩ := logic_facts a b c ha hb hc
  clear ha hb hc
  go_enter Try.func6, Try.ntmps6
  simp only [List.append]
  go_wp2_with (first | (go_at_call 10; refine (shown_ok W _ hB0).mono ?_; clear hB0; rintro e w' ⟨rfl, hB⟩) | (go_at_call 14; refine (clo14 W _ _ _ _ hB).mono ?_; clear hB; rintro e w' ⟨rfl, hB⟩) | (go_at_call 15; refine (clo15 W _ _ hB).mono ?_; clear hB; rintro e w' ⟨rfl, hB⟩))
  go_ret
  exact ⟨rfl, by assumption⟩
end Go.Proofs.Ytbapimbjgfplhaa
