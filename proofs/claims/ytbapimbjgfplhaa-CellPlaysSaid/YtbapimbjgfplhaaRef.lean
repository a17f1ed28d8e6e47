/- The document's answers (rhytonref01), walked: each returns what the plain functions of cell.Two and cell.One say, and changes nothing that was there. No condition but that the cells are cells. -/
import Derived.Test.YtbapimbjgfplhaaFive
namespace Go.Proofs.Ytbapimbjgfplhaa
open Go.RowKit
attribute [local go_sem ↓] execOp_call_slot
attribute [local go_sem] callVal_func
theorem rtruth_any (b : Bool) (w : World) : Calls Try.prog 24 #[.bool b] w fun e w' => e = .returned (.int .i64 (truth b)) ∧ w = w' := by
  cases b
  · go_enter Try.func24, Try.ntmps24
    go_wp2
    go_ret
    exact ⟨rfl, rfl⟩
  · go_enter Try.func24, Try.ntmps24
    go_wp2
    go_ret
    exact ⟨rfl, rfl⟩
def manyF (op : Int) : Int := if 1 ≤ op ∧ op ≤ 10 then 1 else if 11 ≤ op ∧ op ≤ 27 then 2 else 0
theorem many_any (op : Int) (w : World) : Calls Try.prog 21 #[.int .i64 op] w fun e w' => e = .returned (.int .i64 (manyF op)) ∧ w = w' := by
  rcases (show op < 1 ∨ (1 ≤ op ∧ op ≤ 10) ∨ (11 ≤ op ∧ op ≤ 27) ∨ 27 < op by omega) with h | h | h | h
  · have HV := Lib.hid (show manyF op = 0 by unfold manyF; rw [if_neg (by omega), if_neg (by omega)])
    have h1 : ¬ 1 ≤ op := by omega
    have h2 : ¬ 11 ≤ op := by omega
    go_enter Try.func21, Try.ntmps21
    go_wp2
    all_goals (first | (go_ret; exact ⟨by rw [HV.out]; rfl, rfl⟩) | exact ⟨by rw [HV.out]; rfl, rfl⟩)
  · have HV := Lib.hid (show manyF op = 1 by unfold manyF; rw [if_pos h])
    obtain ⟨h1, h2⟩ := h
    go_enter Try.func21, Try.ntmps21
    go_wp2
    all_goals (first | (go_ret; exact ⟨by rw [HV.out]; rfl, rfl⟩) | exact ⟨by rw [HV.out]; rfl, rfl⟩)
  · have HV := Lib.hid (show manyF op = 2 by unfold manyF; rw [if_neg (by omega), if_pos h])
    obtain ⟨h1, h2⟩ := h
    have h3 : 1 ≤ op := by omega
    have h4 : ¬ op ≤ 10 := by omega
    go_enter Try.func21, Try.ntmps21
    go_wp2
    all_goals (first | (go_ret; exact ⟨by rw [HV.out]; rfl, rfl⟩) | exact ⟨by rw [HV.out]; rfl, rfl⟩)
  · have HV := Lib.hid (show manyF op = 0 by unfold manyF; rw [if_neg (by omega), if_neg (by omega)])
    have h1 : 1 ≤ op := by omega
    have h2 : 11 ≤ op := by omega
    have h3 : ¬ op ≤ 27 := by omega
    have h4 : ¬ op ≤ 10 := by omega
    go_enter Try.func21, Try.ntmps21
    go_wp2
    all_goals (first | (go_ret; exact ⟨by rw [HV.out]; rfl, rfl⟩) | exact ⟨by rw [HV.out]; rfl, rfl⟩)
theorem rmany_any (op : Int) (w : World) : Calls Try.prog 22 #[.int .i64 op] w fun e w' => e = .returned (.int .i64 (manyF op)) ∧ w = w' := by
  rcases (show op < 1 ∨ (1 ≤ op ∧ op ≤ 10) ∨ (11 ≤ op ∧ op ≤ 27) ∨ 27 < op by omega) with h | h | h | h
  · have HV := Lib.hid (show manyF op = 0 by unfold manyF; rw [if_neg (by omega), if_neg (by omega)])
    have h1 : ¬ 1 ≤ op := by omega
    have h2 : ¬ 11 ≤ op := by omega
    go_enter Try.func22, Try.ntmps22
    go_wp2
    all_goals (first | (go_ret; exact ⟨by rw [HV.out]; rfl, rfl⟩) | exact ⟨by rw [HV.out]; rfl, rfl⟩)
  · have HV := Lib.hid (show manyF op = 1 by unfold manyF; rw [if_pos h])
    obtain ⟨h1, h2⟩ := h
    go_enter Try.func22, Try.ntmps22
    go_wp2
    all_goals (first | (go_ret; exact ⟨by rw [HV.out]; rfl, rfl⟩) | exact ⟨by rw [HV.out]; rfl, rfl⟩)
  · have HV := Lib.hid (show manyF op = 2 by unfold manyF; rw [if_neg (by omega), if_pos h])
    obtain ⟨h1, h2⟩ := h
    have h3 : 1 ≤ op := by omega
    have h4 : ¬ op ≤ 10 := by omega
    go_enter Try.func22, Try.ntmps22
    go_wp2
    all_goals (first | (go_ret; exact ⟨by rw [HV.out]; rfl, rfl⟩) | exact ⟨by rw [HV.out]; rfl, rfl⟩)
  · have HV := Lib.hid (show manyF op = 0 by unfold manyF; rw [if_neg (by omega), if_neg (by omega)])
    have h1 : 1 ≤ op := by omega
    have h2 : 11 ≤ op := by omega
    have h3 : ¬ op ≤ 27 := by omega
    have h4 : ¬ op ≤ 10 := by omega
    go_enter Try.func22, Try.ntmps22
    go_wp2
    all_goals (first | (go_ret; exact ⟨by rw [HV.out]; rfl, rfl⟩) | exact ⟨by rw [HV.out]; rfl, rfl⟩)
theorem half_ways (a : Int) (ha : -9223372036854775808 ≤ a ∧ a ≤ 9223372036854775807) :
    (a < 0 → (a.tmod 2 != 0) = true → wrap64 (wrap64 (a.tdiv 2) - 1) = a / 2) ∧ (a < 0 → (a.tmod 2 != 0) = false → wrap64 (a.tdiv 2) = a / 2) ∧ (0 ≤ a → wrap64 (a.tdiv 2) = a / 2) := by
  have hr := tmod_bd a 2 (by decide)
  have hd := Int.mul_tdiv_add_tmod a 2
  have e : wrap64 (a.tdiv 2) = a.tdiv 2 := IntWalk.wrap64_in _ (by omega)
  rw [e]
  refine ⟨fun h1 h2 => ?_, fun h1 h2 => ?_, fun h1 => ?_⟩
  · have h2 : a.tmod 2 ≠ 0 := by simpa using h2
    rw [IntWalk.wrap64_in _ (by omega)]; omega
  · have h2 : a.tmod 2 = 0 := by simpa using h2
    omega
  · omega
theorem rhalf_any (a : Int) (ha : -9223372036854775808 ≤ a ∧ a ≤ 9223372036854775807) (w : World) : Calls Try.prog 26 #[.int .i64 a] w fun e w' => e = .returned (.int .i64 (hfF a)) ∧ w = w' := by
  have H := Lib.hid (half_ways a ha)
  clear ha
  go_enter Try.func26, Try.ntmps26
  go_wp2
  · obtain ⟨h1, h2, h3⟩ := H.out
    go_ret
    exact ⟨by unfold hfF; rw [← h1 ‹_› ‹_›]; rfl, rfl⟩
  · obtain ⟨h1, h2, h3⟩ := H.out
    go_ret
    exact ⟨by unfold hfF; rw [← h2 ‹_› ‹_›]; rfl, rfl⟩
  · obtain ⟨h1, h2, h3⟩ := H.out
    first | (go_ret; exact ⟨by unfold hfF; rw [← h3 ‹_›]; rfl, rfl⟩) | exact ⟨by unfold hfF; rw [← h3 ‹_›], rfl⟩
theorem div_left (a b : Int) (ha : -9223372036854775808 ≤ a ∧ a ≤ 9223372036854775807) (hb : -9223372036854775808 ≤ b ∧ b ≤ 9223372036854775807) (h0 : ¬ b = 0) : wrap64 (a - wrap64 (wrap64 (a.tdiv b) * b)) = a.tmod b := by
  have hd := Int.mul_tdiv_add_tmod a b
  have hr := tmod_bd a b h0
  obtain ⟨k1, e1⟩ := wrap64_ex (a.tdiv b)
  obtain ⟨k2, e2⟩ := wrap64_ex (wrap64 (a.tdiv b) * b)
  rw [e2, e1]
  have e : a - ((a.tdiv b + 18446744073709551616 * k1) * b + 18446744073709551616 * k2) = a.tmod b + 18446744073709551616 * (-(k1 * b + k2)) := by
    rw [Int.add_mul, Int.mul_assoc]
    have : a.tdiv b * b = b * a.tdiv b := Int.mul_comm _ _
    omega
  rw [e]
  exact wrap64_at _ _ (by omega)
theorem qr_yes (a b : Int) (ha : -9223372036854775808 ≤ a ∧ a ≤ 9223372036854775807) (hb : -9223372036854775808 ≤ b ∧ b ≤ 9223372036854775807) (h0 : ¬ b = 0) (h1 : ¬ a.tmod b = 0) (h2 : (!decide (a.tmod b < 0) == decide (b < 0)) = true) :
    qF a b = wrap64 (wrap64 (a.tdiv b) - 1) ∧ rF a b = wrap64 (a.tmod b + b) := by
  have hr := tmod_bd a b h0
  have hx := xor_sign (a.tmod b) b (by omega) hb
  have hc : (a.tmod b != 0) = true ∧ bits .xor .i64 (a.tmod b) b < 0 := by
    refine ⟨by simpa using h1, ?_⟩
    rw [hx]
    intro hh
    simp [hh] at h2
  unfold qF rF
  rw [if_pos hc, if_pos hc]; exact ⟨rfl, rfl⟩
theorem qr_no (a b : Int) (ha : -9223372036854775808 ≤ a ∧ a ≤ 9223372036854775807) (hb : -9223372036854775808 ≤ b ∧ b ≤ 9223372036854775807) (h0 : ¬ b = 0) (h : a.tmod b = 0 ∨ (!decide (a.tmod b < 0) == decide (b < 0)) = false) :
    qF a b = wrap64 (a.tdiv b) ∧ rF a b = a.tmod b := by
  have hr := tmod_bd a b h0
  have hx := xor_sign (a.tmod b) b (by omega) hb
  have hc : ¬ ((a.tmod b != 0) = true ∧ bits .xor .i64 (a.tmod b) b < 0) := by
    rintro ⟨h1, h2⟩
    rw [hx] at h2
    rcases h with h | h
    · simp [h] at h1
    · apply h2
      by_cases h3 : a.tmod b < 0 <;> by_cases h4 : b < 0 <;> simp_all
  unfold qF rF
  rw [if_neg hc, if_neg hc]; exact ⟨rfl, rfl⟩
theorem qr_m1 (a : Int) : qF a (-1) = wrap64 (0 - a) ∧ rF a (-1) = 0 := by
  have h : a.tmod (-1) = 0 := by rw [Int.tmod_neg]; simp
  have h2 : a.tdiv (-1) = 0 - a := by rw [Int.tdiv_neg]; simp
  unfold qF rF
  simp [h, h2]
theorem rdiv_any (a b : Int) (ha : -9223372036854775808 ≤ a ∧ a ≤ 9223372036854775807) (hb : -9223372036854775808 ≤ b ∧ b ≤ 9223372036854775807) (h0 : ¬ b = 0) (w : World) :
    Calls Try.prog 27 #[.int .i64 a, .int .i64 b] w fun e w' => e = .returned (.tuple #[.int .i64 (qF a b), .int .i64 (rF a b)]) ∧ w = w' := by
  by_cases hm : b = -1
  · subst hm
    have H := Lib.hid (qr_m1 a)
    clear ha hb h0
    go_enter Try.func27, Try.ntmps27
    go_wp2
    go_ret2
    exact ⟨by rw [H.out.1, H.out.2]; simp, rfl⟩
  · have hb1 : (b == -1) = false := by simpa using hm
    have HE := Lib.hid (div_left a b ha hb h0)
    have HY := Lib.hid (qr_yes a b ha hb h0)
    have HN := Lib.hid (qr_no a b ha hb h0)
    clear ha hb hm
    go_enter Try.func27, Try.ntmps27
    go_wp2
    · rename_i h1
      have hn := HN.out (.inl (by rw [← HE.out]; exact h1))
      first | go_ret2 | skip
      exact ⟨by rw [hn.1, hn.2, ← HE.out, h1]; rfl, rfl⟩
    · rename_i h1 h2
      rw [HE.out] at h1
      obtain ⟨h2, h3⟩ := h2
      rw [HE.out] at h3
      have hn := HY.out h1 h3
      first | go_ret2 | skip
      exact ⟨by rw [hn.1, hn.2, ← HE.out]; rfl, rfl⟩
    · rename_i h1 h2
      rw [HE.out] at h1 h2
      have hn := HN.out (.inr (by rcases h2 with h2 | h2; exact absurd (by simpa using h2) h1; exact h2))
      first | go_ret2 | skip
      exact ⟨by rw [hn.1, hn.2, ← HE.out]; rfl, rfl⟩
end Go.Proofs.Ytbapimbjgfplhaa
