/- The walk of MemKeeps: for any bytes, any place, any cell it returns true and changes nothing that was there. -/
import Derived.Test.YtaaebgdlmhpdkaaFacts
namespace Go.Proofs.Ytaaebgdlmhpdkaa
open Go.RowKit
set_option maxHeartbeats 2000000 in
set_option maxRecDepth 100000 in
theorem walk_MemKeeps (a : Option Addr) (len cap : Nat) (zs : List Int) (at_ x : Int) (W : World) (R : RowIn .u8 W a len cap zs) (hat : (Lit.int .u8 at_).wf = true) (hx : (Lit.int .i64 x).wf = true) :
    Calls Try.prog 3 #[.slice a len cap, .int .u8 at_, .int .i64 x] W fun e w' => e = .returned (.bool true) ∧ Below W.heap.size W w' := by
  have hB := Below.refl W.heap.size W
  obtain ⟨n1, n2⟩ := wf_u8 hat
  obtain ⟨l1, l2⟩ := row_le R
  have HR := Lib.hid R
  have HX := Lib.hid (wf_i64 hx)
  clear R hat hx
  go_enter Try.func3, Try.ntmps3
  go_wp2_with fail
  refine (shown_ok W _ hB).mono ?_
  clear hB
  rintro e w1 ⟨rfl, hB⟩
  go_wp2_with fail
  refine (own_new hB 1024 (by omega) (by omega) (by omega)).mono ?_
  rintro e w2 ⟨p, g, rfl, O⟩
  rcases Nat.lt_or_ge 1024 len with hlt | hge
  · obtain ⟨s, hs, hcv⟩ := row_text O.below HR.out 1024 (by omega)
    have hs2 : s.size ≤ 1024 := by omega
    have hat1 : 0 ≤ at_ % 128 * 8 := by omega
    have hat2 : at_ % 128 * 8 ≤ 1016 := by omega
    have hat3 : at_ % 128 * 8 % 8 = 0 := by omega
    have HS := Lib.hid hs
    have H3 := Lib.hid hat3
    clear hs hat3
    go_wp2_with fail
    obtain ⟨k, hk⟩ := Int.eq_ofNat_of_zero_le hat1
    rw [hk] at H3 hat1 hat2 ⊢
    clear hk n1 n2
    refine (own_write O 0 s (by omega) (by rw [zbs_length]; omega)).mono ?_
    rintro e w3 ⟨rfl, O3⟩
    have hb3 := Lib.hid (show (spliceB (zbs 1024) (0 : Int).toNat s.data.toList).length = 1024 by rw [spliceB_length _ _ _ (by rw [zbs_length, str_len]; omega), zbs_length])
    go_wp2_with fail
    refine (own_put O3 k x (by omega) (by rw [hb3.out]; omega) H3.out).mono ?_
    rintro e w4 ⟨rfl, O4⟩
    have hb4 := Lib.hid (show (putN (spliceB (zbs 1024) (0 : Int).toNat s.data.toList) (k : Int).toNat x 8).length = 1024 by rw [putN_length, hb3.out])
    go_wp2_with fail
    refine (get_ok w4 O4.mem k (by omega) (by rw [hb4.out]; omega) H3.out).mono ?_
    rintro e w5 ⟨rfl, rfl⟩
    rw [rd_put _ _ _ (by rw [hb3.out]; omega) HX.out]
    have hxx : (x != x) = false := by simp
    go_wp2_with fail
    refine (all_any w4 O4.mem).mono ?_
    rintro e w5 ⟨rfl, rfl⟩
    obtain ⟨t, ht⟩ : ∃ t : ByteArray, strOf (putN (spliceB (zbs 1024) (0 : Int).toNat s.data.toList) (k : Int).toNat x 8) = .string t := ⟨_, rfl⟩
    rw [ht]
    have hts : t.size = 1024 := by rw [strOf_size ht, hb4.out]
    have hts2 : 1024 ≤ t.size := by omega
    have HT := Lib.hid (fun j hj hjt => keeps_byte s t k x hs2 (by omega) ht j hj hjt)
    clear ht
    go_wp2_with fail
    clear hxx
    have HTS := Lib.hid hts
    clear hts
    go_loop [72] (fun i => ∃ j : Nat, j ≤ 1024 ∧ i = .int .i64 j) (fun i => 1024 - (intOf i).toNat)
    case atStart => exact ⟨0, by omega, rfl⟩
    case round =>
      obtain ⟨j, hj, rfl⟩ := hrel
      by_cases hlt : j < 1024
      · have hjt : j < t.size := by omega
        obtain ⟨F1, F2⟩ := HT.out j hlt hjt
        by_cases hn : k ≤ j ∧ j < k + 8
        · obtain ⟨hn1, hn2⟩ := hn
          have f1 : ((t[j].toNat : Int) != IntKind.u64.wrap x / 2 ^ (8 * (j - k)) % 256) = false := by simpa using F1 hn1 hn2
          have H1 := Lib.hid (And.intro F1 F2)
          clear F1 F2
          by_cases hc : j < s.size
          · go_wp2
            go_round
            case rel => exact ⟨j + 1, by omega, by go_num⟩
            case measure => simp [intOf]; omega
          · go_wp2
            go_round
            case rel => exact ⟨j + 1, by omega, by go_num⟩
            case measure => simp [intOf]; omega
        · obtain ⟨G1, G2⟩ := F2 hn
          rcases (show j < k ∨ (k ≤ j ∧ k + 8 ≤ j) by omega) with hn1 | ⟨hn1, hn2⟩
          all_goals
            clear hn F1 F2
            by_cases hc : j < s.size
            · have f1 : ((t[j].toNat : Int) != (s[j].toNat : Int)) = false := by rw [G1 hc]; simp
              clear G1 G2
              go_wp2
              go_round
              case rel => exact ⟨j + 1, by omega, by go_num⟩
              case measure => simp [intOf]; omega
            · have f1 : ((t[j].toNat : Int) != 0) = false := by rw [G2 hc]; simp
              clear G1 G2
              go_wp2
              go_round
              case rel => exact ⟨j + 1, by omega, by go_num⟩
              case measure => simp [intOf]; omega
      · have hj2 : j = 1024 := by omega
        subst hj2
        go_wp2
        go_ret
        exact ⟨rfl, O4.below⟩
  · obtain ⟨s, hs, hcv⟩ := row_text O.below HR.out len (by omega)
    have hs2 : s.size ≤ 1024 := by omega
    have hat1 : 0 ≤ at_ % 128 * 8 := by omega
    have hat2 : at_ % 128 * 8 ≤ 1016 := by omega
    have hat3 : at_ % 128 * 8 % 8 = 0 := by omega
    have HS := Lib.hid hs
    have H3 := Lib.hid hat3
    clear hs hat3
    go_wp2_with fail
    obtain ⟨k, hk⟩ := Int.eq_ofNat_of_zero_le hat1
    rw [hk] at H3 hat1 hat2 ⊢
    clear hk n1 n2
    refine (own_write O 0 s (by omega) (by rw [zbs_length]; omega)).mono ?_
    rintro e w3 ⟨rfl, O3⟩
    have hb3 := Lib.hid (show (spliceB (zbs 1024) (0 : Int).toNat s.data.toList).length = 1024 by rw [spliceB_length _ _ _ (by rw [zbs_length, str_len]; omega), zbs_length])
    go_wp2_with fail
    refine (own_put O3 k x (by omega) (by rw [hb3.out]; omega) H3.out).mono ?_
    rintro e w4 ⟨rfl, O4⟩
    have hb4 := Lib.hid (show (putN (spliceB (zbs 1024) (0 : Int).toNat s.data.toList) (k : Int).toNat x 8).length = 1024 by rw [putN_length, hb3.out])
    go_wp2_with fail
    refine (get_ok w4 O4.mem k (by omega) (by rw [hb4.out]; omega) H3.out).mono ?_
    rintro e w5 ⟨rfl, rfl⟩
    rw [rd_put _ _ _ (by rw [hb3.out]; omega) HX.out]
    have hxx : (x != x) = false := by simp
    go_wp2_with fail
    refine (all_any w4 O4.mem).mono ?_
    rintro e w5 ⟨rfl, rfl⟩
    obtain ⟨t, ht⟩ : ∃ t : ByteArray, strOf (putN (spliceB (zbs 1024) (0 : Int).toNat s.data.toList) (k : Int).toNat x 8) = .string t := ⟨_, rfl⟩
    rw [ht]
    have hts : t.size = 1024 := by rw [strOf_size ht, hb4.out]
    have hts2 : 1024 ≤ t.size := by omega
    have HT := Lib.hid (fun j hj hjt => keeps_byte s t k x hs2 (by omega) ht j hj hjt)
    clear ht
    go_wp2_with fail
    clear hxx
    have HTS := Lib.hid hts
    clear hts
    go_loop [72] (fun i => ∃ j : Nat, j ≤ 1024 ∧ i = .int .i64 j) (fun i => 1024 - (intOf i).toNat)
    case atStart => exact ⟨0, by omega, rfl⟩
    case round =>
      obtain ⟨j, hj, rfl⟩ := hrel
      by_cases hlt : j < 1024
      · have hjt : j < t.size := by omega
        obtain ⟨F1, F2⟩ := HT.out j hlt hjt
        by_cases hn : k ≤ j ∧ j < k + 8
        · obtain ⟨hn1, hn2⟩ := hn
          have f1 : ((t[j].toNat : Int) != IntKind.u64.wrap x / 2 ^ (8 * (j - k)) % 256) = false := by simpa using F1 hn1 hn2
          have H1 := Lib.hid (And.intro F1 F2)
          clear F1 F2
          by_cases hc : j < s.size
          · go_wp2
            go_round
            case rel => exact ⟨j + 1, by omega, by go_num⟩
            case measure => simp [intOf]; omega
          · go_wp2
            go_round
            case rel => exact ⟨j + 1, by omega, by go_num⟩
            case measure => simp [intOf]; omega
        · obtain ⟨G1, G2⟩ := F2 hn
          rcases (show j < k ∨ (k ≤ j ∧ k + 8 ≤ j) by omega) with hn1 | ⟨hn1, hn2⟩
          all_goals
            clear hn F1 F2
            by_cases hc : j < s.size
            · have f1 : ((t[j].toNat : Int) != (s[j].toNat : Int)) = false := by rw [G1 hc]; simp
              clear G1 G2
              go_wp2
              go_round
              case rel => exact ⟨j + 1, by omega, by go_num⟩
              case measure => simp [intOf]; omega
            · have f1 : ((t[j].toNat : Int) != 0) = false := by rw [G2 hc]; simp
              clear G1 G2
              go_wp2
              go_round
              case rel => exact ⟨j + 1, by omega, by go_num⟩
              case measure => simp [intOf]; omega
      · have hj2 : j = 1024 := by omega
        subst hj2
        go_wp2
        go_ret
        exact ⟨rfl, O4.below⟩
end Go.Proofs.Ytaaebgdlmhpdkaa
