/- The walk of CellDivides: for any two cells it returns true and changes nothing that was there. -/
import Derived.Test.YtbapimbjgfplhaaPlain
namespace Go.Proofs.Ytbapimbjgfplhaa
open Go.RowKit
theorem divides_fact (a b : Int) (ha : (Lit.int .i64 a).wf = true) (hb : (Lit.int .i64 b).wf = true) (h0 : ¬ b = 0) :
    (twoF 11 (twoF 13 (twoF 14 a b) b) (twoF 15 a b) == a) = true ∧ ((0 ≤ twoF 15 a b ∧ twoF 15 a b < b) ∨ (twoF 15 a b ≤ 0 ∧ b < twoF 15 a b)) := by
  have e1 : ∀ x y, twoF 11 x y = addF x y := fun x y => by simp [twoF]
  have e2 : ∀ x y, twoF 13 x y = mulF x y := fun x y => by simp [twoF]
  have e3 : twoF 14 a b = qF a b := by simp [twoF, h0]
  have e4 : twoF 15 a b = rF a b := by simp [twoF, h0]
  have h := divides a b (wf_lo ha) (wf_lo hb) h0
  rw [e1, e2, e3, e4]
  exact ⟨by simpa using h.1, h.2⟩
set_option maxHeartbeats 1000000 in
theorem walk_CellDivides (a b : Int) (ha : (Lit.int .i64 a).wf = true) (hb : (Lit.int .i64 b).wf = true) (W : World) :
    Calls Try.prog 3 #[.int .i64 a, .int .i64 b] W fun e w' => e = .returned (.bool true) ∧ Below W.heap.size W w' := by
  have hB0 := Below.refl W.heap.size W
  by_cases h0 : b = 0
  · subst h0
    have f1 : (twoE 14 0 == -10) = true := by decide
    have f2 : (twoE 15 0 == -10) = true := by decide
    have f3 : (twoF 14 a 0 == 0) = true := by simp [twoF]
    have f4 : (twoF 15 a 0 == 0) = true := by simp [twoF]
    clear ha hb
    go_enter Try.func3, Try.ntmps3
    go_wp2_with (first | (go_at_call 10; refine (shown_ok W _ (by assumption)).mono ?_; rintro e w' ⟨rfl, hB⟩) | (go_at_call 11; refine (two_any W _ _ _ _ (by assumption)).mono ?_; rintro e w' ⟨rfl, hB⟩))
    go_ret
    exact ⟨rfl, by assumption⟩
  · have hz : (b == 0) = false := by simpa using h0
    obtain ⟨h1, h2⟩ := divides_fact a b ha hb h0
    have f1 : (twoE 14 b == 0) = true := by simp [twoE, h0]
    have f2 : (twoE 15 b == 0) = true := by simp [twoE, h0]
    clear ha hb h0
    generalize hr : twoF 15 a b = r at *
    have Hr := Lib.hid hr
    clear hr
    rcases h2 with h2 | h2
    · obtain ⟨h3, h4⟩ := h2
      go_enter Try.func3, Try.ntmps3
      go_wp2_with (first | (go_at_call 10; refine (shown_ok W _ (by assumption)).mono ?_; rintro e w' ⟨rfl, hB⟩) | (go_at_call 11; refine (two_any W _ _ _ _ (by assumption)).mono ?_; rintro e w' ⟨rfl, hB⟩; try rw [Hr.out]))
      go_ret
      exact ⟨rfl, by assumption⟩
    · obtain ⟨h3, h4⟩ := h2
      by_cases h5 : 0 ≤ r
      · have h6 : ¬ r < b := by omega
        go_enter Try.func3, Try.ntmps3
        go_wp2_with (first | (go_at_call 10; refine (shown_ok W _ (by assumption)).mono ?_; rintro e w' ⟨rfl, hB⟩) | (go_at_call 11; refine (two_any W _ _ _ _ (by assumption)).mono ?_; rintro e w' ⟨rfl, hB⟩; try rw [Hr.out]))
        go_ret
        exact ⟨rfl, by assumption⟩
      · go_enter Try.func3, Try.ntmps3
        go_wp2_with (first | (go_at_call 10; refine (shown_ok W _ (by assumption)).mono ?_; rintro e w' ⟨rfl, hB⟩) | (go_at_call 11; refine (two_any W _ _ _ _ (by assumption)).mono ?_; rintro e w' ⟨rfl, hB⟩; try rw [Hr.out]))
        go_ret
        exact ⟨rfl, by assumption⟩
end Go.Proofs.Ytbapimbjgfplhaa
