/- The walk of MemEnds: for any two numbers, any byte it returns true and changes nothing that was there. -/
import Derived.Test.YtaaebgdlmhpdkaaFacts
namespace Go.Proofs.Ytaaebgdlmhpdkaa
open Go.RowKit
def eB (L : Nat) (a : Int) : Int := if 0 ≤ a ∧ a < L then 0 else -9
def eT (L : Nat) (a n : Int) : Int := if 0 ≤ a ∧ a ≤ L ∧ 0 ≤ n ∧ n ≤ L - a then 0 else -9
def eG (L : Nat) (a : Int) : Int := if 0 ≤ a ∧ a + 8 ≤ L then (if a % 8 = 0 then 0 else -23) else -9
section
variable {p g : Nat} {bs : List UInt8} {h : Nat} {w : World}
theorem getb_any (M : MemIs w p g bs h) (a : Int) : Calls Try.prog 17 #[.pointer (some ⟨p, 0, none⟩), .int .i64 a] w fun e w' => ∃ v, e = .returned (.tuple #[.int .u8 v, .int .i64 (eB bs.length a)]) ∧ w = w' := by
  by_cases hc : 0 ≤ a ∧ a < bs.length
  · unfold eB; rw [if_pos hc]
    exact (getb_ok w M a hc.1 hc.2).mono fun _ _ ⟨he, hw⟩ => ⟨_, he, hw⟩
  · unfold eB; rw [if_neg hc]
    exact (getb_no w M a hc).mono fun _ _ ⟨he, hw⟩ => ⟨_, he, hw⟩
theorem text_any (M : MemIs w p g bs h) (a n : Int) : Calls Try.prog 16 #[.pointer (some ⟨p, 0, none⟩), .int .i64 a, .int .i64 n] w fun e w' => ∃ s : ByteArray, e = .returned (.tuple #[.string s, .int .i64 (eT bs.length a n)]) ∧ w = w' := by
  by_cases hc : 0 ≤ a ∧ a ≤ bs.length ∧ 0 ≤ n ∧ n ≤ bs.length - a
  · unfold eT; rw [if_pos hc]
    exact (text_ok w M a n hc.1 hc.2.2.1 (by omega)).mono fun _ _ ⟨he, hw⟩ => ⟨_, he, hw⟩
  · unfold eT; rw [if_neg hc]
    exact (text_no w M a n hc).mono fun _ _ ⟨he, hw⟩ => ⟨_, he, hw⟩
theorem get_any (M : MemIs w p g bs h) (a : Int) : Calls Try.prog 14 #[.pointer (some ⟨p, 0, none⟩), .int .i64 a] w fun e w' => ∃ v, e = .returned (.tuple #[.int .i64 v, .int .i64 (eG bs.length a)]) ∧ w = w' := by
  by_cases hc : 0 ≤ a ∧ a + 8 ≤ bs.length
  · by_cases h8 : a % 8 = 0
    · unfold eG; rw [if_pos hc, if_pos h8]
      exact (get_ok w M a hc.1 hc.2 h8).mono fun _ _ ⟨he, hw⟩ => ⟨_, he, hw⟩
    · unfold eG; rw [if_pos hc, if_neg h8]
      exact (get_un w M a hc.1 hc.2 h8).mono fun _ _ ⟨he, hw⟩ => ⟨_, he, hw⟩
  · unfold eG; rw [if_neg hc]
    exact (get_no w M a hc).mono fun _ _ ⟨he, hw⟩ => ⟨_, he, hw⟩
theorem put_bad (M : MemIs w p g bs h) (a x : Int) (hb : ¬ (0 ≤ a ∧ a + 8 ≤ bs.length ∧ a % 8 = 0)) : Calls Try.prog 13 #[.pointer (some ⟨p, 0, none⟩), .int .i64 a, .int .i64 x] w fun e w' => e = .returned (.int .i64 (eG bs.length a)) ∧ w = w' := by
  by_cases hc : 0 ≤ a ∧ a + 8 ≤ bs.length
  · have h8 : ¬ a % 8 = 0 := fun h => hb ⟨hc.1, hc.2, h⟩
    unfold eG; rw [if_pos hc, if_neg h8]
    exact put_un w M a x hc.1 hc.2 h8
  · unfold eG; rw [if_neg hc]
    exact put_no w M a x hc
theorem move_bad (M : MemIs w p g bs h) (a n : Int) (hb : ¬ (0 ≤ a ∧ a ≤ bs.length ∧ 0 ≤ n ∧ n ≤ bs.length - a)) : Calls Try.prog 19 #[.pointer (some ⟨p, 0, none⟩), .int .i64 0, .int .i64 a, .int .i64 n] w fun e w' => e = .returned (.int .i64 (-9)) ∧ w = w' := by
  by_cases hc : 0 ≤ n ∧ n ≤ bs.length
  · exact move_no2 w M 0 a n (by omega) hc.1 (by omega) hb
  · exact move_no1 w M 0 a n (by omega)
end
set_option maxHeartbeats 2000000 in
set_option maxRecDepth 100000 in
theorem ends_lo (a n c : Int) (W : World) (h1 : a < 0) :
    Calls Try.prog 6 #[.int .i64 a, .int .i64 n, .int .u8 c] W fun e w' => e = .returned (.bool true) ∧ Below W.heap.size W w' := by
  have hB := Below.refl W.heap.size W
  have e1 : eB 2048 a = -9 := by unfold eB; rw [if_neg (by omega)]
  have e2 : eT 2048 a n = -9 := by unfold eT; rw [if_neg (by omega)]
  have e3 : eG 2048 a = -9 := by unfold eG; rw [if_neg (by omega)]
  have b1 := Lib.hid (show ¬ (0 ≤ a ∧ a < (2048 : Nat)) by omega)
  have b2 := Lib.hid (show ¬ (0 ≤ a ∧ a ≤ (2048 : Nat) ∧ 0 ≤ n ∧ n ≤ (2048 : Nat) - a) by omega)
  have b3 := Lib.hid (show ¬ (0 ≤ a ∧ a + 8 ≤ (2048 : Nat) ∧ a % 8 = 0) by omega)
  go_enter Try.func6, Try.ntmps6
  try simp only [List.append]
  go_wp2_with fail
  refine (shown_ok W _ hB).mono ?_
  clear hB
  rintro e w1 ⟨rfl, hB⟩
  go_wp2_with fail
  refine (own_new hB 2048 (by omega) (by omega) (by omega)).mono ?_
  rintro e w2 ⟨p, g, rfl, O⟩
  go_wp2_with fail
  refine (own_fill O 0 2048 7 (by omega) (by omega) (by rw [zbs_length]; omega)).mono ?_
  rintro e w3 ⟨rfl, O3⟩
  have hb3 := Lib.hid (show (fillN (zbs 2048) (0 : Int).toNat 7 (2048 : Int).toNat).length = 2048 by rw [fillN_length, zbs_length])
  generalize fillN (zbs 2048) (0 : Int).toNat 7 (2048 : Int).toNat = bs at *
  go_wp2_with fail
  have HA := Lib.hid (all_any w3 O3.mem)
  obtain ⟨T, hT⟩ : ∃ T : ByteArray, strOf bs = .string T := ⟨_, rfl⟩
  rw [hT] at HA
  have hts : T.size = 2048 := by rw [strOf_size hT, hb3.out]
  have HG := Lib.hid (getb_any O3.mem a)
  have HX := Lib.hid (text_any O3.mem a n)
  have HG8 := Lib.hid (get_any O3.mem a)
  have HP := Lib.hid (fun hb => putb_no w3 O3.mem a c hb)
  have HF := Lib.hid (fun hb => fill_no w3 O3.mem a n c hb)
  have HM1 := Lib.hid (fun hb => move_no1 w3 O3.mem a 0 n hb)
  have HM2 := Lib.hid (fun hb => move_bad O3.mem a n hb)
  have HPut := Lib.hid (fun hb => put_bad O3.mem a n hb)
  rw [hb3.out] at HG HX HG8 HP HF HM1 HM2 HPut
  have OB := Lib.hid O3.below
  clear hT O3 O hB
  go_wp2_with (first | (go_at_call 15; refine HA.out.mono ?_; rintro e w' ⟨rfl, rfl⟩) | (go_at_call 17; refine HG.out.mono ?_; rintro e w' ⟨vb, rfl, rfl⟩) | (go_at_call 16; refine HX.out.mono ?_; rintro e w' ⟨vs, rfl, rfl⟩) | ((with_reducible refine HG8.out.mono ?_); rintro e w' ⟨vg, rfl, rfl⟩) | (go_at_call 20; refine (HP.out b1.out).mono ?_; rintro e w' ⟨rfl, rfl⟩) | (go_at_call 18; refine (HF.out b2.out).mono ?_; rintro e w' ⟨rfl, rfl⟩) | ((with_reducible refine (HM1.out b2.out).mono ?_); rintro e w' ⟨rfl, rfl⟩) | ((with_reducible refine (HM2.out b2.out).mono ?_); rintro e w' ⟨rfl, rfl⟩) | ((with_reducible refine (HPut.out b3.out).mono ?_); rintro e w' ⟨rfl, rfl⟩) | ((with_reducible refine (get_nil _ _).mono ?_); rintro e w' ⟨rfl, rfl⟩) | ((with_reducible refine (put_nil _ _ _).mono ?_); rintro e w' ⟨rfl, rfl⟩) | (go_at_call 21; refine (allot_nil _ _).mono ?_; rintro e w' ⟨rfl, rfl⟩) | (go_at_call 22; refine (here_nil _).mono ?_; rintro e w' ⟨rfl, rfl⟩) | (go_at_call 23; refine (size_nil _).mono ?_; rintro e w' ⟨rfl, rfl⟩))
  go_ret
  exact ⟨rfl, OB.out⟩
set_option maxHeartbeats 2000000 in
set_option maxRecDepth 100000 in
theorem ends_hi (a n c : Int) (W : World) (h1 : 2048 < a) :
    Calls Try.prog 6 #[.int .i64 a, .int .i64 n, .int .u8 c] W fun e w' => e = .returned (.bool true) ∧ Below W.heap.size W w' := by
  have hB := Below.refl W.heap.size W
  have e1 : eB 2048 a = -9 := by unfold eB; rw [if_neg (by omega)]
  have e2 : eT 2048 a n = -9 := by unfold eT; rw [if_neg (by omega)]
  have e3 : eG 2048 a = -9 := by unfold eG; rw [if_neg (by omega)]
  have b1 := Lib.hid (show ¬ (0 ≤ a ∧ a < (2048 : Nat)) by omega)
  have b2 := Lib.hid (show ¬ (0 ≤ a ∧ a ≤ (2048 : Nat) ∧ 0 ≤ n ∧ n ≤ (2048 : Nat) - a) by omega)
  have b3 := Lib.hid (show ¬ (0 ≤ a ∧ a + 8 ≤ (2048 : Nat) ∧ a % 8 = 0) by omega)
  go_enter Try.func6, Try.ntmps6
  try simp only [List.append]
  go_wp2_with fail
  refine (shown_ok W _ hB).mono ?_
  clear hB
  rintro e w1 ⟨rfl, hB⟩
  go_wp2_with fail
  refine (own_new hB 2048 (by omega) (by omega) (by omega)).mono ?_
  rintro e w2 ⟨p, g, rfl, O⟩
  go_wp2_with fail
  refine (own_fill O 0 2048 7 (by omega) (by omega) (by rw [zbs_length]; omega)).mono ?_
  rintro e w3 ⟨rfl, O3⟩
  have hb3 := Lib.hid (show (fillN (zbs 2048) (0 : Int).toNat 7 (2048 : Int).toNat).length = 2048 by rw [fillN_length, zbs_length])
  generalize fillN (zbs 2048) (0 : Int).toNat 7 (2048 : Int).toNat = bs at *
  go_wp2_with fail
  have HA := Lib.hid (all_any w3 O3.mem)
  obtain ⟨T, hT⟩ : ∃ T : ByteArray, strOf bs = .string T := ⟨_, rfl⟩
  rw [hT] at HA
  have hts : T.size = 2048 := by rw [strOf_size hT, hb3.out]
  have HG := Lib.hid (getb_any O3.mem a)
  have HX := Lib.hid (text_any O3.mem a n)
  have HG8 := Lib.hid (get_any O3.mem a)
  have HP := Lib.hid (fun hb => putb_no w3 O3.mem a c hb)
  have HF := Lib.hid (fun hb => fill_no w3 O3.mem a n c hb)
  have HM1 := Lib.hid (fun hb => move_no1 w3 O3.mem a 0 n hb)
  have HM2 := Lib.hid (fun hb => move_bad O3.mem a n hb)
  have HPut := Lib.hid (fun hb => put_bad O3.mem a n hb)
  rw [hb3.out] at HG HX HG8 HP HF HM1 HM2 HPut
  have OB := Lib.hid O3.below
  clear hT O3 O hB
  go_wp2_with (first | (go_at_call 15; refine HA.out.mono ?_; rintro e w' ⟨rfl, rfl⟩) | (go_at_call 17; refine HG.out.mono ?_; rintro e w' ⟨vb, rfl, rfl⟩) | (go_at_call 16; refine HX.out.mono ?_; rintro e w' ⟨vs, rfl, rfl⟩) | ((with_reducible refine HG8.out.mono ?_); rintro e w' ⟨vg, rfl, rfl⟩) | (go_at_call 20; refine (HP.out b1.out).mono ?_; rintro e w' ⟨rfl, rfl⟩) | (go_at_call 18; refine (HF.out b2.out).mono ?_; rintro e w' ⟨rfl, rfl⟩) | ((with_reducible refine (HM1.out b2.out).mono ?_); rintro e w' ⟨rfl, rfl⟩) | ((with_reducible refine (HM2.out b2.out).mono ?_); rintro e w' ⟨rfl, rfl⟩) | ((with_reducible refine (HPut.out b3.out).mono ?_); rintro e w' ⟨rfl, rfl⟩) | ((with_reducible refine (get_nil _ _).mono ?_); rintro e w' ⟨rfl, rfl⟩) | ((with_reducible refine (put_nil _ _ _).mono ?_); rintro e w' ⟨rfl, rfl⟩) | (go_at_call 21; refine (allot_nil _ _).mono ?_; rintro e w' ⟨rfl, rfl⟩) | (go_at_call 22; refine (here_nil _).mono ?_; rintro e w' ⟨rfl, rfl⟩) | (go_at_call 23; refine (size_nil _).mono ?_; rintro e w' ⟨rfl, rfl⟩))
  go_ret
  exact ⟨rfl, OB.out⟩
set_option maxHeartbeats 2000000 in
set_option maxRecDepth 100000 in
theorem ends_at_neg (a n c : Int) (W : World) (h1 : 0 ≤ a) (h2 : a ≤ 2040) (h8 : a % 8 = 0) (h3 : n < 0) :
    Calls Try.prog 6 #[.int .i64 a, .int .i64 n, .int .u8 c] W fun e w' => e = .returned (.bool true) ∧ Below W.heap.size W w' := by
  have hB := Below.refl W.heap.size W
  have e1 : eB 2048 a = 0 := by unfold eB; rw [if_pos (by omega)]
  have e3 : eG 2048 a = 0 := by unfold eG; rw [if_pos (by omega), if_pos h8]
  have q1 : (a % 8 == 0) = true := by simpa using h8
  have q2 : (a % 8 != 0) = false := by simpa using h8
  have b1 := Lib.hid True.intro
  have b3 := Lib.hid True.intro
  have e2 : eT 2048 a n = -9 := by unfold eT; rw [if_neg (by omega)]
  have b2 := Lib.hid (show ¬ (0 ≤ a ∧ a ≤ (2048 : Nat) ∧ 0 ≤ n ∧ n ≤ (2048 : Nat) - a) by omega)
  clear h8
  go_enter Try.func6, Try.ntmps6
  try simp only [List.append]
  go_wp2_with fail
  refine (shown_ok W _ hB).mono ?_
  clear hB
  rintro e w1 ⟨rfl, hB⟩
  go_wp2_with fail
  refine (own_new hB 2048 (by omega) (by omega) (by omega)).mono ?_
  rintro e w2 ⟨p, g, rfl, O⟩
  go_wp2_with fail
  refine (own_fill O 0 2048 7 (by omega) (by omega) (by rw [zbs_length]; omega)).mono ?_
  rintro e w3 ⟨rfl, O3⟩
  have hb3 := Lib.hid (show (fillN (zbs 2048) (0 : Int).toNat 7 (2048 : Int).toNat).length = 2048 by rw [fillN_length, zbs_length])
  generalize fillN (zbs 2048) (0 : Int).toNat 7 (2048 : Int).toNat = bs at *
  go_wp2_with fail
  have HA := Lib.hid (all_any w3 O3.mem)
  obtain ⟨T, hT⟩ : ∃ T : ByteArray, strOf bs = .string T := ⟨_, rfl⟩
  rw [hT] at HA
  have hts : T.size = 2048 := by rw [strOf_size hT, hb3.out]
  have HG := Lib.hid (getb_any O3.mem a)
  have HX := Lib.hid (text_any O3.mem a n)
  have HG8 := Lib.hid (get_any O3.mem a)
  have HP := Lib.hid (fun hb => putb_no w3 O3.mem a c hb)
  have HF := Lib.hid (fun hb => fill_no w3 O3.mem a n c hb)
  have HM1 := Lib.hid (fun hb => move_no1 w3 O3.mem a 0 n hb)
  have HM2 := Lib.hid (fun hb => move_bad O3.mem a n hb)
  have HPut := Lib.hid (fun hb => put_bad O3.mem a n hb)
  rw [hb3.out] at HG HX HG8 HP HF HM1 HM2 HPut
  have OB := Lib.hid O3.below
  clear hT O3 O hB
  go_wp2_with (first | (go_at_call 15; refine HA.out.mono ?_; rintro e w' ⟨rfl, rfl⟩) | (go_at_call 17; refine HG.out.mono ?_; rintro e w' ⟨vb, rfl, rfl⟩) | (go_at_call 16; refine HX.out.mono ?_; rintro e w' ⟨vs, rfl, rfl⟩) | ((with_reducible refine HG8.out.mono ?_); rintro e w' ⟨vg, rfl, rfl⟩) | (go_at_call 20; refine (HP.out b1.out).mono ?_; rintro e w' ⟨rfl, rfl⟩) | (go_at_call 18; refine (HF.out b2.out).mono ?_; rintro e w' ⟨rfl, rfl⟩) | ((with_reducible refine (HM1.out b2.out).mono ?_); rintro e w' ⟨rfl, rfl⟩) | ((with_reducible refine (HM2.out b2.out).mono ?_); rintro e w' ⟨rfl, rfl⟩) | ((with_reducible refine (HPut.out b3.out).mono ?_); rintro e w' ⟨rfl, rfl⟩) | ((with_reducible refine (get_nil _ _).mono ?_); rintro e w' ⟨rfl, rfl⟩) | ((with_reducible refine (put_nil _ _ _).mono ?_); rintro e w' ⟨rfl, rfl⟩) | (go_at_call 21; refine (allot_nil _ _).mono ?_; rintro e w' ⟨rfl, rfl⟩) | (go_at_call 22; refine (here_nil _).mono ?_; rintro e w' ⟨rfl, rfl⟩) | (go_at_call 23; refine (size_nil _).mono ?_; rintro e w' ⟨rfl, rfl⟩))
  go_ret
  exact ⟨rfl, OB.out⟩
set_option maxHeartbeats 2000000 in
set_option maxRecDepth 100000 in
theorem ends_at_fit (a n c : Int) (W : World) (h1 : 0 ≤ a) (h2 : a ≤ 2040) (h8 : a % 8 = 0) (h3 : 0 ≤ n) (h4 : n ≤ 2048 - a) :
    Calls Try.prog 6 #[.int .i64 a, .int .i64 n, .int .u8 c] W fun e w' => e = .returned (.bool true) ∧ Below W.heap.size W w' := by
  have hB := Below.refl W.heap.size W
  have e1 : eB 2048 a = 0 := by unfold eB; rw [if_pos (by omega)]
  have e3 : eG 2048 a = 0 := by unfold eG; rw [if_pos (by omega), if_pos h8]
  have q1 : (a % 8 == 0) = true := by simpa using h8
  have q2 : (a % 8 != 0) = false := by simpa using h8
  have b1 := Lib.hid True.intro
  have b3 := Lib.hid True.intro
  have e2 : eT 2048 a n = 0 := by unfold eT; rw [if_pos (by omega)]
  have b2 := Lib.hid True.intro
  clear h8
  go_enter Try.func6, Try.ntmps6
  try simp only [List.append]
  go_wp2_with fail
  refine (shown_ok W _ hB).mono ?_
  clear hB
  rintro e w1 ⟨rfl, hB⟩
  go_wp2_with fail
  refine (own_new hB 2048 (by omega) (by omega) (by omega)).mono ?_
  rintro e w2 ⟨p, g, rfl, O⟩
  go_wp2_with fail
  refine (own_fill O 0 2048 7 (by omega) (by omega) (by rw [zbs_length]; omega)).mono ?_
  rintro e w3 ⟨rfl, O3⟩
  have hb3 := Lib.hid (show (fillN (zbs 2048) (0 : Int).toNat 7 (2048 : Int).toNat).length = 2048 by rw [fillN_length, zbs_length])
  generalize fillN (zbs 2048) (0 : Int).toNat 7 (2048 : Int).toNat = bs at *
  go_wp2_with fail
  have HA := Lib.hid (all_any w3 O3.mem)
  obtain ⟨T, hT⟩ : ∃ T : ByteArray, strOf bs = .string T := ⟨_, rfl⟩
  rw [hT] at HA
  have hts : T.size = 2048 := by rw [strOf_size hT, hb3.out]
  have HG := Lib.hid (getb_any O3.mem a)
  have HX := Lib.hid (text_any O3.mem a n)
  have HG8 := Lib.hid (get_any O3.mem a)
  have HP := Lib.hid (fun hb => putb_no w3 O3.mem a c hb)
  have HF := Lib.hid (fun hb => fill_no w3 O3.mem a n c hb)
  have HM1 := Lib.hid (fun hb => move_no1 w3 O3.mem a 0 n hb)
  have HM2 := Lib.hid (fun hb => move_bad O3.mem a n hb)
  have HPut := Lib.hid (fun hb => put_bad O3.mem a n hb)
  rw [hb3.out] at HG HX HG8 HP HF HM1 HM2 HPut
  have OB := Lib.hid O3.below
  clear hT O3 O hB
  go_wp2_with (first | (go_at_call 15; refine HA.out.mono ?_; rintro e w' ⟨rfl, rfl⟩) | (go_at_call 17; refine HG.out.mono ?_; rintro e w' ⟨vb, rfl, rfl⟩) | (go_at_call 16; refine HX.out.mono ?_; rintro e w' ⟨vs, rfl, rfl⟩) | ((with_reducible refine HG8.out.mono ?_); rintro e w' ⟨vg, rfl, rfl⟩) | (go_at_call 20; refine (HP.out b1.out).mono ?_; rintro e w' ⟨rfl, rfl⟩) | (go_at_call 18; refine (HF.out b2.out).mono ?_; rintro e w' ⟨rfl, rfl⟩) | ((with_reducible refine (HM1.out b2.out).mono ?_); rintro e w' ⟨rfl, rfl⟩) | ((with_reducible refine (HM2.out b2.out).mono ?_); rintro e w' ⟨rfl, rfl⟩) | ((with_reducible refine (HPut.out b3.out).mono ?_); rintro e w' ⟨rfl, rfl⟩) | ((with_reducible refine (get_nil _ _).mono ?_); rintro e w' ⟨rfl, rfl⟩) | ((with_reducible refine (put_nil _ _ _).mono ?_); rintro e w' ⟨rfl, rfl⟩) | (go_at_call 21; refine (allot_nil _ _).mono ?_; rintro e w' ⟨rfl, rfl⟩) | (go_at_call 22; refine (here_nil _).mono ?_; rintro e w' ⟨rfl, rfl⟩) | (go_at_call 23; refine (size_nil _).mono ?_; rintro e w' ⟨rfl, rfl⟩))
  go_ret
  exact ⟨rfl, OB.out⟩
set_option maxHeartbeats 2000000 in
set_option maxRecDepth 100000 in
theorem ends_at_far (a n c : Int) (W : World) (h1 : 0 ≤ a) (h2 : a ≤ 2040) (h8 : a % 8 = 0) (h3 : 0 ≤ n) (h4 : 2048 - a < n) :
    Calls Try.prog 6 #[.int .i64 a, .int .i64 n, .int .u8 c] W fun e w' => e = .returned (.bool true) ∧ Below W.heap.size W w' := by
  have hB := Below.refl W.heap.size W
  have e1 : eB 2048 a = 0 := by unfold eB; rw [if_pos (by omega)]
  have e3 : eG 2048 a = 0 := by unfold eG; rw [if_pos (by omega), if_pos h8]
  have q1 : (a % 8 == 0) = true := by simpa using h8
  have q2 : (a % 8 != 0) = false := by simpa using h8
  have b1 := Lib.hid True.intro
  have b3 := Lib.hid True.intro
  have e2 : eT 2048 a n = -9 := by unfold eT; rw [if_neg (by omega)]
  have b2 := Lib.hid (show ¬ (0 ≤ a ∧ a ≤ (2048 : Nat) ∧ 0 ≤ n ∧ n ≤ (2048 : Nat) - a) by omega)
  clear h8
  go_enter Try.func6, Try.ntmps6
  try simp only [List.append]
  go_wp2_with fail
  refine (shown_ok W _ hB).mono ?_
  clear hB
  rintro e w1 ⟨rfl, hB⟩
  go_wp2_with fail
  refine (own_new hB 2048 (by omega) (by omega) (by omega)).mono ?_
  rintro e w2 ⟨p, g, rfl, O⟩
  go_wp2_with fail
  refine (own_fill O 0 2048 7 (by omega) (by omega) (by rw [zbs_length]; omega)).mono ?_
  rintro e w3 ⟨rfl, O3⟩
  have hb3 := Lib.hid (show (fillN (zbs 2048) (0 : Int).toNat 7 (2048 : Int).toNat).length = 2048 by rw [fillN_length, zbs_length])
  generalize fillN (zbs 2048) (0 : Int).toNat 7 (2048 : Int).toNat = bs at *
  go_wp2_with fail
  have HA := Lib.hid (all_any w3 O3.mem)
  obtain ⟨T, hT⟩ : ∃ T : ByteArray, strOf bs = .string T := ⟨_, rfl⟩
  rw [hT] at HA
  have hts : T.size = 2048 := by rw [strOf_size hT, hb3.out]
  have HG := Lib.hid (getb_any O3.mem a)
  have HX := Lib.hid (text_any O3.mem a n)
  have HG8 := Lib.hid (get_any O3.mem a)
  have HP := Lib.hid (fun hb => putb_no w3 O3.mem a c hb)
  have HF := Lib.hid (fun hb => fill_no w3 O3.mem a n c hb)
  have HM1 := Lib.hid (fun hb => move_no1 w3 O3.mem a 0 n hb)
  have HM2 := Lib.hid (fun hb => move_bad O3.mem a n hb)
  have HPut := Lib.hid (fun hb => put_bad O3.mem a n hb)
  rw [hb3.out] at HG HX HG8 HP HF HM1 HM2 HPut
  have OB := Lib.hid O3.below
  clear hT O3 O hB
  go_wp2_with (first | (go_at_call 15; refine HA.out.mono ?_; rintro e w' ⟨rfl, rfl⟩) | (go_at_call 17; refine HG.out.mono ?_; rintro e w' ⟨vb, rfl, rfl⟩) | (go_at_call 16; refine HX.out.mono ?_; rintro e w' ⟨vs, rfl, rfl⟩) | ((with_reducible refine HG8.out.mono ?_); rintro e w' ⟨vg, rfl, rfl⟩) | (go_at_call 20; refine (HP.out b1.out).mono ?_; rintro e w' ⟨rfl, rfl⟩) | (go_at_call 18; refine (HF.out b2.out).mono ?_; rintro e w' ⟨rfl, rfl⟩) | ((with_reducible refine (HM1.out b2.out).mono ?_); rintro e w' ⟨rfl, rfl⟩) | ((with_reducible refine (HM2.out b2.out).mono ?_); rintro e w' ⟨rfl, rfl⟩) | ((with_reducible refine (HPut.out b3.out).mono ?_); rintro e w' ⟨rfl, rfl⟩) | ((with_reducible refine (get_nil _ _).mono ?_); rintro e w' ⟨rfl, rfl⟩) | ((with_reducible refine (put_nil _ _ _).mono ?_); rintro e w' ⟨rfl, rfl⟩) | (go_at_call 21; refine (allot_nil _ _).mono ?_; rintro e w' ⟨rfl, rfl⟩) | (go_at_call 22; refine (here_nil _).mono ?_; rintro e w' ⟨rfl, rfl⟩) | (go_at_call 23; refine (size_nil _).mono ?_; rintro e w' ⟨rfl, rfl⟩))
  go_ret
  exact ⟨rfl, OB.out⟩
set_option maxHeartbeats 2000000 in
set_option maxRecDepth 100000 in
theorem ends_un_neg (a n c : Int) (W : World) (h1 : 0 ≤ a) (h2 : a ≤ 2040) (h8 : ¬ a % 8 = 0) (h3 : n < 0) :
    Calls Try.prog 6 #[.int .i64 a, .int .i64 n, .int .u8 c] W fun e w' => e = .returned (.bool true) ∧ Below W.heap.size W w' := by
  have hB := Below.refl W.heap.size W
  have e1 : eB 2048 a = 0 := by unfold eB; rw [if_pos (by omega)]
  have e3 : eG 2048 a = -23 := by unfold eG; rw [if_pos (by omega), if_neg h8]
  have q1 : (a % 8 == 0) = false := by simpa using h8
  have q2 : (a % 8 != 0) = true := by simpa using h8
  have b1 := Lib.hid True.intro
  have b3 := Lib.hid (show ¬ (0 ≤ a ∧ a + 8 ≤ (2048 : Nat) ∧ a % 8 = 0) by omega)
  have e2 : eT 2048 a n = -9 := by unfold eT; rw [if_neg (by omega)]
  have b2 := Lib.hid (show ¬ (0 ≤ a ∧ a ≤ (2048 : Nat) ∧ 0 ≤ n ∧ n ≤ (2048 : Nat) - a) by omega)
  clear h8
  go_enter Try.func6, Try.ntmps6
  try simp only [List.append]
  go_wp2_with fail
  refine (shown_ok W _ hB).mono ?_
  clear hB
  rintro e w1 ⟨rfl, hB⟩
  go_wp2_with fail
  refine (own_new hB 2048 (by omega) (by omega) (by omega)).mono ?_
  rintro e w2 ⟨p, g, rfl, O⟩
  go_wp2_with fail
  refine (own_fill O 0 2048 7 (by omega) (by omega) (by rw [zbs_length]; omega)).mono ?_
  rintro e w3 ⟨rfl, O3⟩
  have hb3 := Lib.hid (show (fillN (zbs 2048) (0 : Int).toNat 7 (2048 : Int).toNat).length = 2048 by rw [fillN_length, zbs_length])
  generalize fillN (zbs 2048) (0 : Int).toNat 7 (2048 : Int).toNat = bs at *
  go_wp2_with fail
  have HA := Lib.hid (all_any w3 O3.mem)
  obtain ⟨T, hT⟩ : ∃ T : ByteArray, strOf bs = .string T := ⟨_, rfl⟩
  rw [hT] at HA
  have hts : T.size = 2048 := by rw [strOf_size hT, hb3.out]
  have HG := Lib.hid (getb_any O3.mem a)
  have HX := Lib.hid (text_any O3.mem a n)
  have HG8 := Lib.hid (get_any O3.mem a)
  have HP := Lib.hid (fun hb => putb_no w3 O3.mem a c hb)
  have HF := Lib.hid (fun hb => fill_no w3 O3.mem a n c hb)
  have HM1 := Lib.hid (fun hb => move_no1 w3 O3.mem a 0 n hb)
  have HM2 := Lib.hid (fun hb => move_bad O3.mem a n hb)
  have HPut := Lib.hid (fun hb => put_bad O3.mem a n hb)
  rw [hb3.out] at HG HX HG8 HP HF HM1 HM2 HPut
  have OB := Lib.hid O3.below
  clear hT O3 O hB
  go_wp2_with (first | (go_at_call 15; refine HA.out.mono ?_; rintro e w' ⟨rfl, rfl⟩) | (go_at_call 17; refine HG.out.mono ?_; rintro e w' ⟨vb, rfl, rfl⟩) | (go_at_call 16; refine HX.out.mono ?_; rintro e w' ⟨vs, rfl, rfl⟩) | ((with_reducible refine HG8.out.mono ?_); rintro e w' ⟨vg, rfl, rfl⟩) | (go_at_call 20; refine (HP.out b1.out).mono ?_; rintro e w' ⟨rfl, rfl⟩) | (go_at_call 18; refine (HF.out b2.out).mono ?_; rintro e w' ⟨rfl, rfl⟩) | ((with_reducible refine (HM1.out b2.out).mono ?_); rintro e w' ⟨rfl, rfl⟩) | ((with_reducible refine (HM2.out b2.out).mono ?_); rintro e w' ⟨rfl, rfl⟩) | ((with_reducible refine (HPut.out b3.out).mono ?_); rintro e w' ⟨rfl, rfl⟩) | ((with_reducible refine (get_nil _ _).mono ?_); rintro e w' ⟨rfl, rfl⟩) | ((with_reducible refine (put_nil _ _ _).mono ?_); rintro e w' ⟨rfl, rfl⟩) | (go_at_call 21; refine (allot_nil _ _).mono ?_; rintro e w' ⟨rfl, rfl⟩) | (go_at_call 22; refine (here_nil _).mono ?_; rintro e w' ⟨rfl, rfl⟩) | (go_at_call 23; refine (size_nil _).mono ?_; rintro e w' ⟨rfl, rfl⟩))
  go_ret
  exact ⟨rfl, OB.out⟩
set_option maxHeartbeats 2000000 in
set_option maxRecDepth 100000 in
theorem ends_un_fit (a n c : Int) (W : World) (h1 : 0 ≤ a) (h2 : a ≤ 2040) (h8 : ¬ a % 8 = 0) (h3 : 0 ≤ n) (h4 : n ≤ 2048 - a) :
    Calls Try.prog 6 #[.int .i64 a, .int .i64 n, .int .u8 c] W fun e w' => e = .returned (.bool true) ∧ Below W.heap.size W w' := by
  have hB := Below.refl W.heap.size W
  have e1 : eB 2048 a = 0 := by unfold eB; rw [if_pos (by omega)]
  have e3 : eG 2048 a = -23 := by unfold eG; rw [if_pos (by omega), if_neg h8]
  have q1 : (a % 8 == 0) = false := by simpa using h8
  have q2 : (a % 8 != 0) = true := by simpa using h8
  have b1 := Lib.hid True.intro
  have b3 := Lib.hid (show ¬ (0 ≤ a ∧ a + 8 ≤ (2048 : Nat) ∧ a % 8 = 0) by omega)
  have e2 : eT 2048 a n = 0 := by unfold eT; rw [if_pos (by omega)]
  have b2 := Lib.hid True.intro
  clear h8
  go_enter Try.func6, Try.ntmps6
  try simp only [List.append]
  go_wp2_with fail
  refine (shown_ok W _ hB).mono ?_
  clear hB
  rintro e w1 ⟨rfl, hB⟩
  go_wp2_with fail
  refine (own_new hB 2048 (by omega) (by omega) (by omega)).mono ?_
  rintro e w2 ⟨p, g, rfl, O⟩
  go_wp2_with fail
  refine (own_fill O 0 2048 7 (by omega) (by omega) (by rw [zbs_length]; omega)).mono ?_
  rintro e w3 ⟨rfl, O3⟩
  have hb3 := Lib.hid (show (fillN (zbs 2048) (0 : Int).toNat 7 (2048 : Int).toNat).length = 2048 by rw [fillN_length, zbs_length])
  generalize fillN (zbs 2048) (0 : Int).toNat 7 (2048 : Int).toNat = bs at *
  go_wp2_with fail
  have HA := Lib.hid (all_any w3 O3.mem)
  obtain ⟨T, hT⟩ : ∃ T : ByteArray, strOf bs = .string T := ⟨_, rfl⟩
  rw [hT] at HA
  have hts : T.size = 2048 := by rw [strOf_size hT, hb3.out]
  have HG := Lib.hid (getb_any O3.mem a)
  have HX := Lib.hid (text_any O3.mem a n)
  have HG8 := Lib.hid (get_any O3.mem a)
  have HP := Lib.hid (fun hb => putb_no w3 O3.mem a c hb)
  have HF := Lib.hid (fun hb => fill_no w3 O3.mem a n c hb)
  have HM1 := Lib.hid (fun hb => move_no1 w3 O3.mem a 0 n hb)
  have HM2 := Lib.hid (fun hb => move_bad O3.mem a n hb)
  have HPut := Lib.hid (fun hb => put_bad O3.mem a n hb)
  rw [hb3.out] at HG HX HG8 HP HF HM1 HM2 HPut
  have OB := Lib.hid O3.below
  clear hT O3 O hB
  go_wp2_with (first | (go_at_call 15; refine HA.out.mono ?_; rintro e w' ⟨rfl, rfl⟩) | (go_at_call 17; refine HG.out.mono ?_; rintro e w' ⟨vb, rfl, rfl⟩) | (go_at_call 16; refine HX.out.mono ?_; rintro e w' ⟨vs, rfl, rfl⟩) | ((with_reducible refine HG8.out.mono ?_); rintro e w' ⟨vg, rfl, rfl⟩) | (go_at_call 20; refine (HP.out b1.out).mono ?_; rintro e w' ⟨rfl, rfl⟩) | (go_at_call 18; refine (HF.out b2.out).mono ?_; rintro e w' ⟨rfl, rfl⟩) | ((with_reducible refine (HM1.out b2.out).mono ?_); rintro e w' ⟨rfl, rfl⟩) | ((with_reducible refine (HM2.out b2.out).mono ?_); rintro e w' ⟨rfl, rfl⟩) | ((with_reducible refine (HPut.out b3.out).mono ?_); rintro e w' ⟨rfl, rfl⟩) | ((with_reducible refine (get_nil _ _).mono ?_); rintro e w' ⟨rfl, rfl⟩) | ((with_reducible refine (put_nil _ _ _).mono ?_); rintro e w' ⟨rfl, rfl⟩) | (go_at_call 21; refine (allot_nil _ _).mono ?_; rintro e w' ⟨rfl, rfl⟩) | (go_at_call 22; refine (here_nil _).mono ?_; rintro e w' ⟨rfl, rfl⟩) | (go_at_call 23; refine (size_nil _).mono ?_; rintro e w' ⟨rfl, rfl⟩))
  go_ret
  exact ⟨rfl, OB.out⟩
set_option maxHeartbeats 2000000 in
set_option maxRecDepth 100000 in
theorem ends_un_far (a n c : Int) (W : World) (h1 : 0 ≤ a) (h2 : a ≤ 2040) (h8 : ¬ a % 8 = 0) (h3 : 0 ≤ n) (h4 : 2048 - a < n) :
    Calls Try.prog 6 #[.int .i64 a, .int .i64 n, .int .u8 c] W fun e w' => e = .returned (.bool true) ∧ Below W.heap.size W w' := by
  have hB := Below.refl W.heap.size W
  have e1 : eB 2048 a = 0 := by unfold eB; rw [if_pos (by omega)]
  have e3 : eG 2048 a = -23 := by unfold eG; rw [if_pos (by omega), if_neg h8]
  have q1 : (a % 8 == 0) = false := by simpa using h8
  have q2 : (a % 8 != 0) = true := by simpa using h8
  have b1 := Lib.hid True.intro
  have b3 := Lib.hid (show ¬ (0 ≤ a ∧ a + 8 ≤ (2048 : Nat) ∧ a % 8 = 0) by omega)
  have e2 : eT 2048 a n = -9 := by unfold eT; rw [if_neg (by omega)]
  have b2 := Lib.hid (show ¬ (0 ≤ a ∧ a ≤ (2048 : Nat) ∧ 0 ≤ n ∧ n ≤ (2048 : Nat) - a) by omega)
  clear h8
  go_enter Try.func6, Try.ntmps6
  try simp only [List.append]
  go_wp2_with fail
  refine (shown_ok W _ hB).mono ?_
  clear hB
  rintro e w1 ⟨rfl, hB⟩
  go_wp2_with fail
  refine (own_new hB 2048 (by omega) (by omega) (by omega)).mono ?_
  rintro e w2 ⟨p, g, rfl, O⟩
  go_wp2_with fail
  refine (own_fill O 0 2048 7 (by omega) (by omega) (by rw [zbs_length]; omega)).mono ?_
  rintro e w3 ⟨rfl, O3⟩
  have hb3 := Lib.hid (show (fillN (zbs 2048) (0 : Int).toNat 7 (2048 : Int).toNat).length = 2048 by rw [fillN_length, zbs_length])
  generalize fillN (zbs 2048) (0 : Int).toNat 7 (2048 : Int).toNat = bs at *
  go_wp2_with fail
  have HA := Lib.hid (all_any w3 O3.mem)
  obtain ⟨T, hT⟩ : ∃ T : ByteArray, strOf bs = .string T := ⟨_, rfl⟩
  rw [hT] at HA
  have hts : T.size = 2048 := by rw [strOf_size hT, hb3.out]
  have HG := Lib.hid (getb_any O3.mem a)
  have HX := Lib.hid (text_any O3.mem a n)
  have HG8 := Lib.hid (get_any O3.mem a)
  have HP := Lib.hid (fun hb => putb_no w3 O3.mem a c hb)
  have HF := Lib.hid (fun hb => fill_no w3 O3.mem a n c hb)
  have HM1 := Lib.hid (fun hb => move_no1 w3 O3.mem a 0 n hb)
  have HM2 := Lib.hid (fun hb => move_bad O3.mem a n hb)
  have HPut := Lib.hid (fun hb => put_bad O3.mem a n hb)
  rw [hb3.out] at HG HX HG8 HP HF HM1 HM2 HPut
  have OB := Lib.hid O3.below
  clear hT O3 O hB
  go_wp2_with (first | (go_at_call 15; refine HA.out.mono ?_; rintro e w' ⟨rfl, rfl⟩) | (go_at_call 17; refine HG.out.mono ?_; rintro e w' ⟨vb, rfl, rfl⟩) | (go_at_call 16; refine HX.out.mono ?_; rintro e w' ⟨vs, rfl, rfl⟩) | ((with_reducible refine HG8.out.mono ?_); rintro e w' ⟨vg, rfl, rfl⟩) | (go_at_call 20; refine (HP.out b1.out).mono ?_; rintro e w' ⟨rfl, rfl⟩) | (go_at_call 18; refine (HF.out b2.out).mono ?_; rintro e w' ⟨rfl, rfl⟩) | ((with_reducible refine (HM1.out b2.out).mono ?_); rintro e w' ⟨rfl, rfl⟩) | ((with_reducible refine (HM2.out b2.out).mono ?_); rintro e w' ⟨rfl, rfl⟩) | ((with_reducible refine (HPut.out b3.out).mono ?_); rintro e w' ⟨rfl, rfl⟩) | ((with_reducible refine (get_nil _ _).mono ?_); rintro e w' ⟨rfl, rfl⟩) | ((with_reducible refine (put_nil _ _ _).mono ?_); rintro e w' ⟨rfl, rfl⟩) | (go_at_call 21; refine (allot_nil _ _).mono ?_; rintro e w' ⟨rfl, rfl⟩) | (go_at_call 22; refine (here_nil _).mono ?_; rintro e w' ⟨rfl, rfl⟩) | (go_at_call 23; refine (size_nil _).mono ?_; rintro e w' ⟨rfl, rfl⟩))
  go_ret
  exact ⟨rfl, OB.out⟩
set_option maxHeartbeats 2000000 in
set_option maxRecDepth 100000 in
theorem ends_end_neg (a n c : Int) (W : World) (h1 : 2041 ≤ a) (h2 : a ≤ 2047) (h8 : ¬ a % 8 = 0) (h3 : n < 0) :
    Calls Try.prog 6 #[.int .i64 a, .int .i64 n, .int .u8 c] W fun e w' => e = .returned (.bool true) ∧ Below W.heap.size W w' := by
  have hB := Below.refl W.heap.size W
  have e1 : eB 2048 a = 0 := by unfold eB; rw [if_pos (by omega)]
  have e3 : eG 2048 a = -9 := by unfold eG; rw [if_neg (by omega)]
  have q1 : (a % 8 == 0) = false := by simpa using h8
  have q2 : (a % 8 != 0) = true := by simpa using h8
  have b1 := Lib.hid True.intro
  have b3 := Lib.hid (show ¬ (0 ≤ a ∧ a + 8 ≤ (2048 : Nat) ∧ a % 8 = 0) by omega)
  have e2 : eT 2048 a n = -9 := by unfold eT; rw [if_neg (by omega)]
  have b2 := Lib.hid (show ¬ (0 ≤ a ∧ a ≤ (2048 : Nat) ∧ 0 ≤ n ∧ n ≤ (2048 : Nat) - a) by omega)
  clear h8
  go_enter Try.func6, Try.ntmps6
  try simp only [List.append]
  go_wp2_with fail
  refine (shown_ok W _ hB).mono ?_
  clear hB
  rintro e w1 ⟨rfl, hB⟩
  go_wp2_with fail
  refine (own_new hB 2048 (by omega) (by omega) (by omega)).mono ?_
  rintro e w2 ⟨p, g, rfl, O⟩
  go_wp2_with fail
  refine (own_fill O 0 2048 7 (by omega) (by omega) (by rw [zbs_length]; omega)).mono ?_
  rintro e w3 ⟨rfl, O3⟩
  have hb3 := Lib.hid (show (fillN (zbs 2048) (0 : Int).toNat 7 (2048 : Int).toNat).length = 2048 by rw [fillN_length, zbs_length])
  generalize fillN (zbs 2048) (0 : Int).toNat 7 (2048 : Int).toNat = bs at *
  go_wp2_with fail
  have HA := Lib.hid (all_any w3 O3.mem)
  obtain ⟨T, hT⟩ : ∃ T : ByteArray, strOf bs = .string T := ⟨_, rfl⟩
  rw [hT] at HA
  have hts : T.size = 2048 := by rw [strOf_size hT, hb3.out]
  have HG := Lib.hid (getb_any O3.mem a)
  have HX := Lib.hid (text_any O3.mem a n)
  have HG8 := Lib.hid (get_any O3.mem a)
  have HP := Lib.hid (fun hb => putb_no w3 O3.mem a c hb)
  have HF := Lib.hid (fun hb => fill_no w3 O3.mem a n c hb)
  have HM1 := Lib.hid (fun hb => move_no1 w3 O3.mem a 0 n hb)
  have HM2 := Lib.hid (fun hb => move_bad O3.mem a n hb)
  have HPut := Lib.hid (fun hb => put_bad O3.mem a n hb)
  rw [hb3.out] at HG HX HG8 HP HF HM1 HM2 HPut
  have OB := Lib.hid O3.below
  clear hT O3 O hB
  go_wp2_with (first | (go_at_call 15; refine HA.out.mono ?_; rintro e w' ⟨rfl, rfl⟩) | (go_at_call 17; refine HG.out.mono ?_; rintro e w' ⟨vb, rfl, rfl⟩) | (go_at_call 16; refine HX.out.mono ?_; rintro e w' ⟨vs, rfl, rfl⟩) | ((with_reducible refine HG8.out.mono ?_); rintro e w' ⟨vg, rfl, rfl⟩) | (go_at_call 20; refine (HP.out b1.out).mono ?_; rintro e w' ⟨rfl, rfl⟩) | (go_at_call 18; refine (HF.out b2.out).mono ?_; rintro e w' ⟨rfl, rfl⟩) | ((with_reducible refine (HM1.out b2.out).mono ?_); rintro e w' ⟨rfl, rfl⟩) | ((with_reducible refine (HM2.out b2.out).mono ?_); rintro e w' ⟨rfl, rfl⟩) | ((with_reducible refine (HPut.out b3.out).mono ?_); rintro e w' ⟨rfl, rfl⟩) | ((with_reducible refine (get_nil _ _).mono ?_); rintro e w' ⟨rfl, rfl⟩) | ((with_reducible refine (put_nil _ _ _).mono ?_); rintro e w' ⟨rfl, rfl⟩) | (go_at_call 21; refine (allot_nil _ _).mono ?_; rintro e w' ⟨rfl, rfl⟩) | (go_at_call 22; refine (here_nil _).mono ?_; rintro e w' ⟨rfl, rfl⟩) | (go_at_call 23; refine (size_nil _).mono ?_; rintro e w' ⟨rfl, rfl⟩))
  go_ret
  exact ⟨rfl, OB.out⟩
set_option maxHeartbeats 2000000 in
set_option maxRecDepth 100000 in
theorem ends_end_fit (a n c : Int) (W : World) (h1 : 2041 ≤ a) (h2 : a ≤ 2047) (h8 : ¬ a % 8 = 0) (h3 : 0 ≤ n) (h4 : n ≤ 2048 - a) :
    Calls Try.prog 6 #[.int .i64 a, .int .i64 n, .int .u8 c] W fun e w' => e = .returned (.bool true) ∧ Below W.heap.size W w' := by
  have hB := Below.refl W.heap.size W
  have e1 : eB 2048 a = 0 := by unfold eB; rw [if_pos (by omega)]
  have e3 : eG 2048 a = -9 := by unfold eG; rw [if_neg (by omega)]
  have q1 : (a % 8 == 0) = false := by simpa using h8
  have q2 : (a % 8 != 0) = true := by simpa using h8
  have b1 := Lib.hid True.intro
  have b3 := Lib.hid (show ¬ (0 ≤ a ∧ a + 8 ≤ (2048 : Nat) ∧ a % 8 = 0) by omega)
  have e2 : eT 2048 a n = 0 := by unfold eT; rw [if_pos (by omega)]
  have b2 := Lib.hid True.intro
  clear h8
  go_enter Try.func6, Try.ntmps6
  try simp only [List.append]
  go_wp2_with fail
  refine (shown_ok W _ hB).mono ?_
  clear hB
  rintro e w1 ⟨rfl, hB⟩
  go_wp2_with fail
  refine (own_new hB 2048 (by omega) (by omega) (by omega)).mono ?_
  rintro e w2 ⟨p, g, rfl, O⟩
  go_wp2_with fail
  refine (own_fill O 0 2048 7 (by omega) (by omega) (by rw [zbs_length]; omega)).mono ?_
  rintro e w3 ⟨rfl, O3⟩
  have hb3 := Lib.hid (show (fillN (zbs 2048) (0 : Int).toNat 7 (2048 : Int).toNat).length = 2048 by rw [fillN_length, zbs_length])
  generalize fillN (zbs 2048) (0 : Int).toNat 7 (2048 : Int).toNat = bs at *
  go_wp2_with fail
  have HA := Lib.hid (all_any w3 O3.mem)
  obtain ⟨T, hT⟩ : ∃ T : ByteArray, strOf bs = .string T := ⟨_, rfl⟩
  rw [hT] at HA
  have hts : T.size = 2048 := by rw [strOf_size hT, hb3.out]
  have HG := Lib.hid (getb_any O3.mem a)
  have HX := Lib.hid (text_any O3.mem a n)
  have HG8 := Lib.hid (get_any O3.mem a)
  have HP := Lib.hid (fun hb => putb_no w3 O3.mem a c hb)
  have HF := Lib.hid (fun hb => fill_no w3 O3.mem a n c hb)
  have HM1 := Lib.hid (fun hb => move_no1 w3 O3.mem a 0 n hb)
  have HM2 := Lib.hid (fun hb => move_bad O3.mem a n hb)
  have HPut := Lib.hid (fun hb => put_bad O3.mem a n hb)
  rw [hb3.out] at HG HX HG8 HP HF HM1 HM2 HPut
  have OB := Lib.hid O3.below
  clear hT O3 O hB
  go_wp2_with (first | (go_at_call 15; refine HA.out.mono ?_; rintro e w' ⟨rfl, rfl⟩) | (go_at_call 17; refine HG.out.mono ?_; rintro e w' ⟨vb, rfl, rfl⟩) | (go_at_call 16; refine HX.out.mono ?_; rintro e w' ⟨vs, rfl, rfl⟩) | ((with_reducible refine HG8.out.mono ?_); rintro e w' ⟨vg, rfl, rfl⟩) | (go_at_call 20; refine (HP.out b1.out).mono ?_; rintro e w' ⟨rfl, rfl⟩) | (go_at_call 18; refine (HF.out b2.out).mono ?_; rintro e w' ⟨rfl, rfl⟩) | ((with_reducible refine (HM1.out b2.out).mono ?_); rintro e w' ⟨rfl, rfl⟩) | ((with_reducible refine (HM2.out b2.out).mono ?_); rintro e w' ⟨rfl, rfl⟩) | ((with_reducible refine (HPut.out b3.out).mono ?_); rintro e w' ⟨rfl, rfl⟩) | ((with_reducible refine (get_nil _ _).mono ?_); rintro e w' ⟨rfl, rfl⟩) | ((with_reducible refine (put_nil _ _ _).mono ?_); rintro e w' ⟨rfl, rfl⟩) | (go_at_call 21; refine (allot_nil _ _).mono ?_; rintro e w' ⟨rfl, rfl⟩) | (go_at_call 22; refine (here_nil _).mono ?_; rintro e w' ⟨rfl, rfl⟩) | (go_at_call 23; refine (size_nil _).mono ?_; rintro e w' ⟨rfl, rfl⟩))
  go_ret
  exact ⟨rfl, OB.out⟩
set_option maxHeartbeats 2000000 in
set_option maxRecDepth 100000 in
theorem ends_end_far (a n c : Int) (W : World) (h1 : 2041 ≤ a) (h2 : a ≤ 2047) (h8 : ¬ a % 8 = 0) (h3 : 0 ≤ n) (h4 : 2048 - a < n) :
    Calls Try.prog 6 #[.int .i64 a, .int .i64 n, .int .u8 c] W fun e w' => e = .returned (.bool true) ∧ Below W.heap.size W w' := by
  have hB := Below.refl W.heap.size W
  have e1 : eB 2048 a = 0 := by unfold eB; rw [if_pos (by omega)]
  have e3 : eG 2048 a = -9 := by unfold eG; rw [if_neg (by omega)]
  have q1 : (a % 8 == 0) = false := by simpa using h8
  have q2 : (a % 8 != 0) = true := by simpa using h8
  have b1 := Lib.hid True.intro
  have b3 := Lib.hid (show ¬ (0 ≤ a ∧ a + 8 ≤ (2048 : Nat) ∧ a % 8 = 0) by omega)
  have e2 : eT 2048 a n = -9 := by unfold eT; rw [if_neg (by omega)]
  have b2 := Lib.hid (show ¬ (0 ≤ a ∧ a ≤ (2048 : Nat) ∧ 0 ≤ n ∧ n ≤ (2048 : Nat) - a) by omega)
  clear h8
  go_enter Try.func6, Try.ntmps6
  try simp only [List.append]
  go_wp2_with fail
  refine (shown_ok W _ hB).mono ?_
  clear hB
  rintro e w1 ⟨rfl, hB⟩
  go_wp2_with fail
  refine (own_new hB 2048 (by omega) (by omega) (by omega)).mono ?_
  rintro e w2 ⟨p, g, rfl, O⟩
  go_wp2_with fail
  refine (own_fill O 0 2048 7 (by omega) (by omega) (by rw [zbs_length]; omega)).mono ?_
  rintro e w3 ⟨rfl, O3⟩
  have hb3 := Lib.hid (show (fillN (zbs 2048) (0 : Int).toNat 7 (2048 : Int).toNat).length = 2048 by rw [fillN_length, zbs_length])
  generalize fillN (zbs 2048) (0 : Int).toNat 7 (2048 : Int).toNat = bs at *
  go_wp2_with fail
  have HA := Lib.hid (all_any w3 O3.mem)
  obtain ⟨T, hT⟩ : ∃ T : ByteArray, strOf bs = .string T := ⟨_, rfl⟩
  rw [hT] at HA
  have hts : T.size = 2048 := by rw [strOf_size hT, hb3.out]
  have HG := Lib.hid (getb_any O3.mem a)
  have HX := Lib.hid (text_any O3.mem a n)
  have HG8 := Lib.hid (get_any O3.mem a)
  have HP := Lib.hid (fun hb => putb_no w3 O3.mem a c hb)
  have HF := Lib.hid (fun hb => fill_no w3 O3.mem a n c hb)
  have HM1 := Lib.hid (fun hb => move_no1 w3 O3.mem a 0 n hb)
  have HM2 := Lib.hid (fun hb => move_bad O3.mem a n hb)
  have HPut := Lib.hid (fun hb => put_bad O3.mem a n hb)
  rw [hb3.out] at HG HX HG8 HP HF HM1 HM2 HPut
  have OB := Lib.hid O3.below
  clear hT O3 O hB
  go_wp2_with (first | (go_at_call 15; refine HA.out.mono ?_; rintro e w' ⟨rfl, rfl⟩) | (go_at_call 17; refine HG.out.mono ?_; rintro e w' ⟨vb, rfl, rfl⟩) | (go_at_call 16; refine HX.out.mono ?_; rintro e w' ⟨vs, rfl, rfl⟩) | ((with_reducible refine HG8.out.mono ?_); rintro e w' ⟨vg, rfl, rfl⟩) | (go_at_call 20; refine (HP.out b1.out).mono ?_; rintro e w' ⟨rfl, rfl⟩) | (go_at_call 18; refine (HF.out b2.out).mono ?_; rintro e w' ⟨rfl, rfl⟩) | ((with_reducible refine (HM1.out b2.out).mono ?_); rintro e w' ⟨rfl, rfl⟩) | ((with_reducible refine (HM2.out b2.out).mono ?_); rintro e w' ⟨rfl, rfl⟩) | ((with_reducible refine (HPut.out b3.out).mono ?_); rintro e w' ⟨rfl, rfl⟩) | ((with_reducible refine (get_nil _ _).mono ?_); rintro e w' ⟨rfl, rfl⟩) | ((with_reducible refine (put_nil _ _ _).mono ?_); rintro e w' ⟨rfl, rfl⟩) | (go_at_call 21; refine (allot_nil _ _).mono ?_; rintro e w' ⟨rfl, rfl⟩) | (go_at_call 22; refine (here_nil _).mono ?_; rintro e w' ⟨rfl, rfl⟩) | (go_at_call 23; refine (size_nil _).mono ?_; rintro e w' ⟨rfl, rfl⟩))
  go_ret
  exact ⟨rfl, OB.out⟩
set_option maxHeartbeats 2000000 in
set_option maxRecDepth 100000 in
theorem ends_top_neg (a n c : Int) (W : World) (h1 : 2048 ≤ a) (h2 : a ≤ 2048) (h8 : a % 8 = 0) (h3 : n < 0) :
    Calls Try.prog 6 #[.int .i64 a, .int .i64 n, .int .u8 c] W fun e w' => e = .returned (.bool true) ∧ Below W.heap.size W w' := by
  have hB := Below.refl W.heap.size W
  have e1 : eB 2048 a = -9 := by unfold eB; rw [if_neg (by omega)]
  have e3 : eG 2048 a = -9 := by unfold eG; rw [if_neg (by omega)]
  have q1 : (a % 8 == 0) = true := by simpa using h8
  have q2 : (a % 8 != 0) = false := by simpa using h8
  have b1 := Lib.hid (show ¬ (0 ≤ a ∧ a < (2048 : Nat)) by omega)
  have b3 := Lib.hid (show ¬ (0 ≤ a ∧ a + 8 ≤ (2048 : Nat) ∧ a % 8 = 0) by omega)
  have e2 : eT 2048 a n = -9 := by unfold eT; rw [if_neg (by omega)]
  have b2 := Lib.hid (show ¬ (0 ≤ a ∧ a ≤ (2048 : Nat) ∧ 0 ≤ n ∧ n ≤ (2048 : Nat) - a) by omega)
  clear h8
  go_enter Try.func6, Try.ntmps6
  try simp only [List.append]
  go_wp2_with fail
  refine (shown_ok W _ hB).mono ?_
  clear hB
  rintro e w1 ⟨rfl, hB⟩
  go_wp2_with fail
  refine (own_new hB 2048 (by omega) (by omega) (by omega)).mono ?_
  rintro e w2 ⟨p, g, rfl, O⟩
  go_wp2_with fail
  refine (own_fill O 0 2048 7 (by omega) (by omega) (by rw [zbs_length]; omega)).mono ?_
  rintro e w3 ⟨rfl, O3⟩
  have hb3 := Lib.hid (show (fillN (zbs 2048) (0 : Int).toNat 7 (2048 : Int).toNat).length = 2048 by rw [fillN_length, zbs_length])
  generalize fillN (zbs 2048) (0 : Int).toNat 7 (2048 : Int).toNat = bs at *
  go_wp2_with fail
  have HA := Lib.hid (all_any w3 O3.mem)
  obtain ⟨T, hT⟩ : ∃ T : ByteArray, strOf bs = .string T := ⟨_, rfl⟩
  rw [hT] at HA
  have hts : T.size = 2048 := by rw [strOf_size hT, hb3.out]
  have HG := Lib.hid (getb_any O3.mem a)
  have HX := Lib.hid (text_any O3.mem a n)
  have HG8 := Lib.hid (get_any O3.mem a)
  have HP := Lib.hid (fun hb => putb_no w3 O3.mem a c hb)
  have HF := Lib.hid (fun hb => fill_no w3 O3.mem a n c hb)
  have HM1 := Lib.hid (fun hb => move_no1 w3 O3.mem a 0 n hb)
  have HM2 := Lib.hid (fun hb => move_bad O3.mem a n hb)
  have HPut := Lib.hid (fun hb => put_bad O3.mem a n hb)
  rw [hb3.out] at HG HX HG8 HP HF HM1 HM2 HPut
  have OB := Lib.hid O3.below
  clear hT O3 O hB
  go_wp2_with (first | (go_at_call 15; refine HA.out.mono ?_; rintro e w' ⟨rfl, rfl⟩) | (go_at_call 17; refine HG.out.mono ?_; rintro e w' ⟨vb, rfl, rfl⟩) | (go_at_call 16; refine HX.out.mono ?_; rintro e w' ⟨vs, rfl, rfl⟩) | ((with_reducible refine HG8.out.mono ?_); rintro e w' ⟨vg, rfl, rfl⟩) | (go_at_call 20; refine (HP.out b1.out).mono ?_; rintro e w' ⟨rfl, rfl⟩) | (go_at_call 18; refine (HF.out b2.out).mono ?_; rintro e w' ⟨rfl, rfl⟩) | ((with_reducible refine (HM1.out b2.out).mono ?_); rintro e w' ⟨rfl, rfl⟩) | ((with_reducible refine (HM2.out b2.out).mono ?_); rintro e w' ⟨rfl, rfl⟩) | ((with_reducible refine (HPut.out b3.out).mono ?_); rintro e w' ⟨rfl, rfl⟩) | ((with_reducible refine (get_nil _ _).mono ?_); rintro e w' ⟨rfl, rfl⟩) | ((with_reducible refine (put_nil _ _ _).mono ?_); rintro e w' ⟨rfl, rfl⟩) | (go_at_call 21; refine (allot_nil _ _).mono ?_; rintro e w' ⟨rfl, rfl⟩) | (go_at_call 22; refine (here_nil _).mono ?_; rintro e w' ⟨rfl, rfl⟩) | (go_at_call 23; refine (size_nil _).mono ?_; rintro e w' ⟨rfl, rfl⟩))
  go_ret
  exact ⟨rfl, OB.out⟩
set_option maxHeartbeats 2000000 in
set_option maxRecDepth 100000 in
theorem ends_top_fit (a n c : Int) (W : World) (h1 : 2048 ≤ a) (h2 : a ≤ 2048) (h8 : a % 8 = 0) (h3 : 0 ≤ n) (h4 : n ≤ 2048 - a) :
    Calls Try.prog 6 #[.int .i64 a, .int .i64 n, .int .u8 c] W fun e w' => e = .returned (.bool true) ∧ Below W.heap.size W w' := by
  have hB := Below.refl W.heap.size W
  have e1 : eB 2048 a = -9 := by unfold eB; rw [if_neg (by omega)]
  have e3 : eG 2048 a = -9 := by unfold eG; rw [if_neg (by omega)]
  have q1 : (a % 8 == 0) = true := by simpa using h8
  have q2 : (a % 8 != 0) = false := by simpa using h8
  have b1 := Lib.hid (show ¬ (0 ≤ a ∧ a < (2048 : Nat)) by omega)
  have b3 := Lib.hid (show ¬ (0 ≤ a ∧ a + 8 ≤ (2048 : Nat) ∧ a % 8 = 0) by omega)
  have e2 : eT 2048 a n = 0 := by unfold eT; rw [if_pos (by omega)]
  have b2 := Lib.hid True.intro
  clear h8
  go_enter Try.func6, Try.ntmps6
  try simp only [List.append]
  go_wp2_with fail
  refine (shown_ok W _ hB).mono ?_
  clear hB
  rintro e w1 ⟨rfl, hB⟩
  go_wp2_with fail
  refine (own_new hB 2048 (by omega) (by omega) (by omega)).mono ?_
  rintro e w2 ⟨p, g, rfl, O⟩
  go_wp2_with fail
  refine (own_fill O 0 2048 7 (by omega) (by omega) (by rw [zbs_length]; omega)).mono ?_
  rintro e w3 ⟨rfl, O3⟩
  have hb3 := Lib.hid (show (fillN (zbs 2048) (0 : Int).toNat 7 (2048 : Int).toNat).length = 2048 by rw [fillN_length, zbs_length])
  generalize fillN (zbs 2048) (0 : Int).toNat 7 (2048 : Int).toNat = bs at *
  go_wp2_with fail
  have HA := Lib.hid (all_any w3 O3.mem)
  obtain ⟨T, hT⟩ : ∃ T : ByteArray, strOf bs = .string T := ⟨_, rfl⟩
  rw [hT] at HA
  have hts : T.size = 2048 := by rw [strOf_size hT, hb3.out]
  have HG := Lib.hid (getb_any O3.mem a)
  have HX := Lib.hid (text_any O3.mem a n)
  have HG8 := Lib.hid (get_any O3.mem a)
  have HP := Lib.hid (fun hb => putb_no w3 O3.mem a c hb)
  have HF := Lib.hid (fun hb => fill_no w3 O3.mem a n c hb)
  have HM1 := Lib.hid (fun hb => move_no1 w3 O3.mem a 0 n hb)
  have HM2 := Lib.hid (fun hb => move_bad O3.mem a n hb)
  have HPut := Lib.hid (fun hb => put_bad O3.mem a n hb)
  rw [hb3.out] at HG HX HG8 HP HF HM1 HM2 HPut
  have OB := Lib.hid O3.below
  clear hT O3 O hB
  go_wp2_with (first | (go_at_call 15; refine HA.out.mono ?_; rintro e w' ⟨rfl, rfl⟩) | (go_at_call 17; refine HG.out.mono ?_; rintro e w' ⟨vb, rfl, rfl⟩) | (go_at_call 16; refine HX.out.mono ?_; rintro e w' ⟨vs, rfl, rfl⟩) | ((with_reducible refine HG8.out.mono ?_); rintro e w' ⟨vg, rfl, rfl⟩) | (go_at_call 20; refine (HP.out b1.out).mono ?_; rintro e w' ⟨rfl, rfl⟩) | (go_at_call 18; refine (HF.out b2.out).mono ?_; rintro e w' ⟨rfl, rfl⟩) | ((with_reducible refine (HM1.out b2.out).mono ?_); rintro e w' ⟨rfl, rfl⟩) | ((with_reducible refine (HM2.out b2.out).mono ?_); rintro e w' ⟨rfl, rfl⟩) | ((with_reducible refine (HPut.out b3.out).mono ?_); rintro e w' ⟨rfl, rfl⟩) | ((with_reducible refine (get_nil _ _).mono ?_); rintro e w' ⟨rfl, rfl⟩) | ((with_reducible refine (put_nil _ _ _).mono ?_); rintro e w' ⟨rfl, rfl⟩) | (go_at_call 21; refine (allot_nil _ _).mono ?_; rintro e w' ⟨rfl, rfl⟩) | (go_at_call 22; refine (here_nil _).mono ?_; rintro e w' ⟨rfl, rfl⟩) | (go_at_call 23; refine (size_nil _).mono ?_; rintro e w' ⟨rfl, rfl⟩))
  go_ret
  exact ⟨rfl, OB.out⟩
set_option maxHeartbeats 2000000 in
set_option maxRecDepth 100000 in
theorem ends_top_far (a n c : Int) (W : World) (h1 : 2048 ≤ a) (h2 : a ≤ 2048) (h8 : a % 8 = 0) (h3 : 0 ≤ n) (h4 : 2048 - a < n) :
    Calls Try.prog 6 #[.int .i64 a, .int .i64 n, .int .u8 c] W fun e w' => e = .returned (.bool true) ∧ Below W.heap.size W w' := by
  have hB := Below.refl W.heap.size W
  have e1 : eB 2048 a = -9 := by unfold eB; rw [if_neg (by omega)]
  have e3 : eG 2048 a = -9 := by unfold eG; rw [if_neg (by omega)]
  have q1 : (a % 8 == 0) = true := by simpa using h8
  have q2 : (a % 8 != 0) = false := by simpa using h8
  have b1 := Lib.hid (show ¬ (0 ≤ a ∧ a < (2048 : Nat)) by omega)
  have b3 := Lib.hid (show ¬ (0 ≤ a ∧ a + 8 ≤ (2048 : Nat) ∧ a % 8 = 0) by omega)
  have e2 : eT 2048 a n = -9 := by unfold eT; rw [if_neg (by omega)]
  have b2 := Lib.hid (show ¬ (0 ≤ a ∧ a ≤ (2048 : Nat) ∧ 0 ≤ n ∧ n ≤ (2048 : Nat) - a) by omega)
  clear h8
  go_enter Try.func6, Try.ntmps6
  try simp only [List.append]
  go_wp2_with fail
  refine (shown_ok W _ hB).mono ?_
  clear hB
  rintro e w1 ⟨rfl, hB⟩
  go_wp2_with fail
  refine (own_new hB 2048 (by omega) (by omega) (by omega)).mono ?_
  rintro e w2 ⟨p, g, rfl, O⟩
  go_wp2_with fail
  refine (own_fill O 0 2048 7 (by omega) (by omega) (by rw [zbs_length]; omega)).mono ?_
  rintro e w3 ⟨rfl, O3⟩
  have hb3 := Lib.hid (show (fillN (zbs 2048) (0 : Int).toNat 7 (2048 : Int).toNat).length = 2048 by rw [fillN_length, zbs_length])
  generalize fillN (zbs 2048) (0 : Int).toNat 7 (2048 : Int).toNat = bs at *
  go_wp2_with fail
  have HA := Lib.hid (all_any w3 O3.mem)
  obtain ⟨T, hT⟩ : ∃ T : ByteArray, strOf bs = .string T := ⟨_, rfl⟩
  rw [hT] at HA
  have hts : T.size = 2048 := by rw [strOf_size hT, hb3.out]
  have HG := Lib.hid (getb_any O3.mem a)
  have HX := Lib.hid (text_any O3.mem a n)
  have HG8 := Lib.hid (get_any O3.mem a)
  have HP := Lib.hid (fun hb => putb_no w3 O3.mem a c hb)
  have HF := Lib.hid (fun hb => fill_no w3 O3.mem a n c hb)
  have HM1 := Lib.hid (fun hb => move_no1 w3 O3.mem a 0 n hb)
  have HM2 := Lib.hid (fun hb => move_bad O3.mem a n hb)
  have HPut := Lib.hid (fun hb => put_bad O3.mem a n hb)
  rw [hb3.out] at HG HX HG8 HP HF HM1 HM2 HPut
  have OB := Lib.hid O3.below
  clear hT O3 O hB
  go_wp2_with (first | (go_at_call 15; refine HA.out.mono ?_; rintro e w' ⟨rfl, rfl⟩) | (go_at_call 17; refine HG.out.mono ?_; rintro e w' ⟨vb, rfl, rfl⟩) | (go_at_call 16; refine HX.out.mono ?_; rintro e w' ⟨vs, rfl, rfl⟩) | ((with_reducible refine HG8.out.mono ?_); rintro e w' ⟨vg, rfl, rfl⟩) | (go_at_call 20; refine (HP.out b1.out).mono ?_; rintro e w' ⟨rfl, rfl⟩) | (go_at_call 18; refine (HF.out b2.out).mono ?_; rintro e w' ⟨rfl, rfl⟩) | ((with_reducible refine (HM1.out b2.out).mono ?_); rintro e w' ⟨rfl, rfl⟩) | ((with_reducible refine (HM2.out b2.out).mono ?_); rintro e w' ⟨rfl, rfl⟩) | ((with_reducible refine (HPut.out b3.out).mono ?_); rintro e w' ⟨rfl, rfl⟩) | ((with_reducible refine (get_nil _ _).mono ?_); rintro e w' ⟨rfl, rfl⟩) | ((with_reducible refine (put_nil _ _ _).mono ?_); rintro e w' ⟨rfl, rfl⟩) | (go_at_call 21; refine (allot_nil _ _).mono ?_; rintro e w' ⟨rfl, rfl⟩) | (go_at_call 22; refine (here_nil _).mono ?_; rintro e w' ⟨rfl, rfl⟩) | (go_at_call 23; refine (size_nil _).mono ?_; rintro e w' ⟨rfl, rfl⟩))
  go_ret
  exact ⟨rfl, OB.out⟩
theorem walk_MemEnds (a n c : Int) (_ha : (Lit.int .i64 a).wf = true) (_hn : (Lit.int .i64 n).wf = true) (_hc : (Lit.int .u8 c).wf = true) (W : World) :
    Calls Try.prog 6 #[.int .i64 a, .int .i64 n, .int .u8 c] W fun e w' => e = .returned (.bool true) ∧ Below W.heap.size W w' := by
  rcases (show a < 0 ∨ 2048 < a ∨ (0 ≤ a ∧ a ≤ 2040 ∧ a % 8 = 0) ∨ (0 ≤ a ∧ a ≤ 2040 ∧ ¬ a % 8 = 0) ∨ (2041 ≤ a ∧ a ≤ 2047 ∧ ¬ a % 8 = 0) ∨ (2048 ≤ a ∧ a ≤ 2048 ∧ a % 8 = 0) by omega) with h | h | ⟨h1, h2, h8⟩ | ⟨h1, h2, h8⟩ | ⟨h1, h2, h8⟩ | ⟨h1, h2, h8⟩
  · exact ends_lo a n c W h
  · exact ends_hi a n c W h
  · rcases (show n < 0 ∨ (0 ≤ n ∧ n ≤ 2048 - a) ∨ (0 ≤ n ∧ 2048 - a < n) by omega) with h3 | ⟨h3, h4⟩ | ⟨h3, h4⟩
    · exact ends_at_neg a n c W h1 h2 h8 h3
    · exact ends_at_fit a n c W h1 h2 h8 h3 h4
    · exact ends_at_far a n c W h1 h2 h8 h3 h4
  · rcases (show n < 0 ∨ (0 ≤ n ∧ n ≤ 2048 - a) ∨ (0 ≤ n ∧ 2048 - a < n) by omega) with h3 | ⟨h3, h4⟩ | ⟨h3, h4⟩
    · exact ends_un_neg a n c W h1 h2 h8 h3
    · exact ends_un_fit a n c W h1 h2 h8 h3 h4
    · exact ends_un_far a n c W h1 h2 h8 h3 h4
  · rcases (show n < 0 ∨ (0 ≤ n ∧ n ≤ 2048 - a) ∨ (0 ≤ n ∧ 2048 - a < n) by omega) with h3 | ⟨h3, h4⟩ | ⟨h3, h4⟩
    · exact ends_end_neg a n c W h1 h2 h8 h3
    · exact ends_end_fit a n c W h1 h2 h8 h3 h4
    · exact ends_end_far a n c W h1 h2 h8 h3 h4
  · rcases (show n < 0 ∨ (0 ≤ n ∧ n ≤ 2048 - a) ∨ (0 ≤ n ∧ 2048 - a < n) by omega) with h3 | ⟨h3, h4⟩ | ⟨h3, h4⟩
    · exact ends_top_neg a n c W h1 h2 h8 h3
    · exact ends_top_fit a n c W h1 h2 h8 h3 h4
    · exact ends_top_far a n c W h1 h2 h8 h3 h4
end Go.Proofs.Ytaaebgdlmhpdkaa
