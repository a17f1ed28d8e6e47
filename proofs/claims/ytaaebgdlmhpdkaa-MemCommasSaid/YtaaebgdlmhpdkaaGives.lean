/- The walk of MemGives: for any numbers it returns true and changes nothing that was there. -/
import Derived.Test.YtaaebgdlmhpdkaaFacts
namespace Go.Proofs.Ytaaebgdlmhpdkaa
open Go.RowKit
theorem wf_i16 {a : Int} (h : (Lit.int .i16 a).wf = true) : -32768 ≤ a ∧ a ≤ 32767 := by
  have hmin : IntKind.i16.min = -32768 := rfl
  have hmax : IntKind.i16.max = 32767 := rfl
  simp only [Lit.wf, Bool.and_eq_true, decide_eq_true_eq, hmin, hmax] at h
  exact h
/-- A cell of a row that came in, where it is read now. -/
theorem row_cell {W w : World} (hB : Below W.heap.size W w) {k : IntKind} {a : Option Addr} {len cap : Nat} {zs : List Int} (R : RowIn k W a len cap zs) (j : Nat) (hj : j < len) :
    ∃ b off z, a = some ⟨b, off, none⟩ ∧ w.cell? ⟨b, off + j, none⟩ = some (.int k z) ∧ (Lit.int k z).wf = true ∧ zs[j]? = some z := by
  rcases R with ⟨rfl, rfl, rfl, rfl⟩ | ⟨x, rfl, hl, hm, hz, hc, hw⟩
  · omega
  · have h1 := hc j (by omega)
    have hj2 : j < zs.length := by omega
    have e1 : zs[j]? = some (zs[j]'hj2) := List.getElem?_eq_getElem _
    have e2 : zs.getD j 0 = zs[j]'hj2 := by rw [List.getD_eq_getElem?_getD, e1]; rfl
    obtain ⟨b, off, spot⟩ := x
    have h0 := hc 0 (by omega)
    have hs : spot = none := by simpa [Addr.add] using World.cell?_spot h0
    subst hs
    have ha : (⟨b, off, none⟩ : Addr).add j = ⟨b, off + j, none⟩ := by unfold Addr.add; split <;> simp_all
    rw [ha, e2] at h1
    exact ⟨b, off, zs[j]'hj2, rfl, (hB.cell (cell_lt h1)).trans h1, hw _ (List.getElem_mem hj2), e1⟩
set_option maxHeartbeats 2000000 in
set_option maxRecDepth 100000 in
theorem walk_MemGives (a : Option Addr) (len cap : Nat) (zs : List Int) (W : World) (R : RowIn .i16 W a len cap zs) :
    Calls Try.prog 7 #[.slice a len cap] W fun e w' => e = .returned (.bool true) ∧ Below W.heap.size W w' := by
  have hB := Below.refl W.heap.size W
  obtain ⟨l1, l2⟩ := row_le R
  have HR := Lib.hid R
  clear R
  go_enter Try.func7, Try.ntmps7
  try simp only [List.append]
  go_wp2_with fail
  refine (shown_ok W _ hB).mono ?_
  clear hB
  rintro e w1 ⟨rfl, hB⟩
  go_wp2_with fail
  refine (own_new hB 1024 (by omega) (by omega) (by omega)).mono ?_
  rintro e w2 ⟨p, g, rfl, O⟩
  have hzl := Lib.hid (zbs_length 1024)
  generalize zbs 1024 = bs at *
  rcases Nat.lt_or_ge 60 len with hlt | hge
  · have hm1 : 60 ≤ len := by omega
    have hm2 : 60 ≤ 60 := by omega
    have HO := Lib.hid O
    clear O
    go_wp2_with fail
    go_loopw [6, 33] (fun hv i wr => ∃ j h : Nat, j ≤ 60 ∧ h ≤ 512 ∧ hv = .int .i64 h ∧ i = .int .i64 j ∧ Owns W wr p g bs h) (fun _ i _ => 60 - (intOf i).toNat)
    case atStart => exact ⟨0, 0, by omega, by omega, rfl, rfl, HO.out⟩
    case round =>
      obtain ⟨j, h, hj, hh, rfl, rfl, O⟩ := hrel
      by_cases hlt : j < 60
      · obtain ⟨b, off, z, rfl, hc, hw, -⟩ := row_cell O.below HR.out j (by omega)
        obtain ⟨z1, z2⟩ := wf_i16 hw
        have HA := Lib.hid (own_allot O (by omega) z)
        rw [hzl.out] at HA
        by_cases hok : 0 ≤ (h : Int) + z ∧ (h : Int) + z ≤ 512
        · have e1 : allotE 1024 h z = 0 := by unfold allotE; rw [if_pos (by omega)]
          have e2 : allotH 1024 h z = ((h : Int) + z).toNat := by unfold allotH; rw [if_pos (by omega)]
          rw [e1, e2] at HA
          obtain ⟨hn, hn2⟩ := Int.eq_ofNat_of_zero_le hok.1
          rw [hn2, Int.toNat_natCast] at HA
          have hnb : ((hn : Int) != (h : Int) + z) = false := by simp; omega
          have HN := Lib.hid hn2
          obtain ⟨k1, k2⟩ := hok
          clear e1 e2 hn2 O hw
          go_wp2_with (first | (go_at_call 21; refine HA.out.mono ?_; rintro e w3 ⟨rfl, O3⟩) | (go_at_call 22; refine (here_any _ O3.mem).mono ?_; rintro e w3 ⟨rfl, rfl⟩))
          go_roundw
          case rel => exact ⟨j + 1, hn, by omega, by have := HN.out; omega, by rw [HN.out], by go_num, O3⟩
          case measure => simp [intOf]; omega
        · have e1 : allotE 1024 h z = -8 := by unfold allotE; rw [if_neg (by omega)]
          have e2 : allotH 1024 h z = h := by unfold allotH; rw [if_neg (by omega)]
          rw [e1, e2] at HA
          have hhb : ((h : Int) != (h : Int)) = false := by simp
          rcases (show (h : Int) + z < 0 ∨ (0 ≤ (h : Int) + z ∧ 512 < (h : Int) + z) by omega) with k1 | ⟨k1, k2⟩
          all_goals
            clear e1 e2 O hw hok
            go_wp2_with (first | (go_at_call 21; refine HA.out.mono ?_; rintro e w3 ⟨rfl, O3⟩) | (go_at_call 22; refine (here_any _ O3.mem).mono ?_; rintro e w3 ⟨rfl, rfl⟩))
            go_roundw
            case rel => exact ⟨j + 1, h, by omega, by omega, rfl, by go_num, O3⟩
            case measure => simp [intOf]; omega
      · obtain ⟨u, hu⟩ := Int.eq_ofNat_of_zero_le (show 0 ≤ ((h : Int) + 7) / 8 * 8 by omega)
        have hu1 : u ≤ 512 := by omega
        have hu2 : u % 8 = 0 := by omega
        have HA := Lib.hid (own_align O (by omega))
        rw [hzl.out] at HA
        have e1 : allotE 1024 h (-(h : Int) % 8) = 0 := by unfold allotE; rw [if_pos (by omega)]
        have e2 : allotH 1024 h (-(h : Int) % 8) = u := by unfold allotH; rw [if_pos (by omega)]; omega
        rw [e1, e2] at HA
        have HU := Lib.hid hu
        have HU2 := Lib.hid hu2
        clear e1 e2 hu hu2 O
        go_wp2_with fail
        rw [HU.out]
        refine HA.out.mono ?_
        rintro e w3 ⟨rfl, O3⟩
        have hub : ((u : Int) != (u : Int)) = false := by simp
        go_wp2_with fail
        refine (here_any _ O3.mem).mono ?_
        rintro e w4 ⟨rfl, rfl⟩
        go_wp2_with fail
        have hl := hzl.out
        by_cases h5 : u = 512
        · subst h5
          refine (own_comma_no O3 (by omega) (-3) (by omega) (by omega)).mono ?_
          rintro e w4 ⟨rfl, O4⟩
          go_wp2_with fail
          refine (get_ok _ O4.mem 512 (by omega) (by omega) (by omega)).mono ?_
          rintro e w5 ⟨rfl, rfl⟩
          generalize wrap64 (rd bs (512 : Int).toNat 8 : Nat) = y at *
          go_wp2_with (go_at_call 22; refine (here_any _ O4.mem).mono ?_; rintro e w3 ⟨rfl, rfl⟩)
          go_ret
          exact ⟨rfl, O4.below⟩
        · refine (own_comma O3 (by omega) (-3) HU2.out (by have := HU2.out; omega)).mono ?_
          rintro e w4 ⟨rfl, O4⟩
          have hl4 := Lib.hid (show (putN bs u (-3) 8).length = 1024 by rw [putN_length, hl])
          have HY := Lib.hid (rd_put bs u (-3) (by omega) (by omega))
          go_wp2_with fail
          refine (get_ok _ O4.mem u (by omega) (by have := hl4.out; omega) (by have := HU2.out; omega)).mono ?_
          rintro e w5 ⟨rfl, rfl⟩
          rw [Int.toNat_natCast, HY.out]
          generalize putN bs u (-3) 8 = bs4 at *
          have h5b : ((u : Int) == 512) = false := by simp; omega
          have O4' := O4
          clear O4
          by_cases h6 : u + 8 = 512
          · have h6b : ((u : Int) + 8 == 512) = true := by simp; omega
            go_wp2_with (go_at_call 22; refine (here_any _ O4'.mem).mono ?_; rintro e w3 ⟨rfl, rfl⟩)
            go_ret
            exact ⟨rfl, O4'.below⟩
          · have h6b : ((u : Int) + 8 == 512) = false := by simp; omega
            have HC := Lib.hid (own_ccomma O4' (by omega) 9 (by have := hl4.out; have := HU2.out; omega))
            have h9 : bV 9 = .int .u8 9 := rfl
            rw [h9] at HC
            have HH := Lib.hid (here_any _ O4'.mem)
            clear h9
            go_wp2_with (first | (go_at_call 22; refine HH.out.mono ?_; rintro e w3 ⟨rfl, rfl⟩) | (go_at_call 26; refine HC.out.mono ?_; rintro e w6 ⟨rfl, O6⟩) | (go_at_call 25; refine (comma_un _ O6.mem 1 (by have := HU2.out; omega)).mono ?_; rintro e w7 ⟨rfl, rfl⟩))
            go_ret
            exact ⟨rfl, O6.below⟩
  · obtain ⟨m, hm⟩ : ∃ m, m = len := ⟨_, rfl⟩
    have hm1 : m ≤ len := by omega
    have hm2 : m ≤ 60 := by omega
    have HM := Lib.hid hm
    clear hm
    have HO := Lib.hid O
    clear O
    go_wp2_with fail
    rw [← HM.out]
    go_loopw [6, 33] (fun hv i wr => ∃ j h : Nat, j ≤ m ∧ h ≤ 512 ∧ hv = .int .i64 h ∧ i = .int .i64 j ∧ Owns W wr p g bs h) (fun _ i _ => m - (intOf i).toNat)
    case atStart => exact ⟨0, 0, by omega, by omega, rfl, rfl, HO.out⟩
    case round =>
      obtain ⟨j, h, hj, hh, rfl, rfl, O⟩ := hrel
      by_cases hlt : j < m
      · obtain ⟨b, off, z, rfl, hc, hw, -⟩ := row_cell O.below HR.out j (by omega)
        obtain ⟨z1, z2⟩ := wf_i16 hw
        have HA := Lib.hid (own_allot O (by omega) z)
        rw [hzl.out] at HA
        by_cases hok : 0 ≤ (h : Int) + z ∧ (h : Int) + z ≤ 512
        · have e1 : allotE 1024 h z = 0 := by unfold allotE; rw [if_pos (by omega)]
          have e2 : allotH 1024 h z = ((h : Int) + z).toNat := by unfold allotH; rw [if_pos (by omega)]
          rw [e1, e2] at HA
          obtain ⟨hn, hn2⟩ := Int.eq_ofNat_of_zero_le hok.1
          rw [hn2, Int.toNat_natCast] at HA
          have hnb : ((hn : Int) != (h : Int) + z) = false := by simp; omega
          have HN := Lib.hid hn2
          obtain ⟨k1, k2⟩ := hok
          clear e1 e2 hn2 O hw
          go_wp2_with (first | (go_at_call 21; refine HA.out.mono ?_; rintro e w3 ⟨rfl, O3⟩) | (go_at_call 22; refine (here_any _ O3.mem).mono ?_; rintro e w3 ⟨rfl, rfl⟩))
          go_roundw
          case rel => exact ⟨j + 1, hn, by omega, by have := HN.out; omega, by rw [HN.out], by go_num, O3⟩
          case measure => simp [intOf]; omega
        · have e1 : allotE 1024 h z = -8 := by unfold allotE; rw [if_neg (by omega)]
          have e2 : allotH 1024 h z = h := by unfold allotH; rw [if_neg (by omega)]
          rw [e1, e2] at HA
          have hhb : ((h : Int) != (h : Int)) = false := by simp
          rcases (show (h : Int) + z < 0 ∨ (0 ≤ (h : Int) + z ∧ 512 < (h : Int) + z) by omega) with k1 | ⟨k1, k2⟩
          all_goals
            clear e1 e2 O hw hok
            go_wp2_with (first | (go_at_call 21; refine HA.out.mono ?_; rintro e w3 ⟨rfl, O3⟩) | (go_at_call 22; refine (here_any _ O3.mem).mono ?_; rintro e w3 ⟨rfl, rfl⟩))
            go_roundw
            case rel => exact ⟨j + 1, h, by omega, by omega, rfl, by go_num, O3⟩
            case measure => simp [intOf]; omega
      · obtain ⟨u, hu⟩ := Int.eq_ofNat_of_zero_le (show 0 ≤ ((h : Int) + 7) / 8 * 8 by omega)
        have hu1 : u ≤ 512 := by omega
        have hu2 : u % 8 = 0 := by omega
        have HA := Lib.hid (own_align O (by omega))
        rw [hzl.out] at HA
        have e1 : allotE 1024 h (-(h : Int) % 8) = 0 := by unfold allotE; rw [if_pos (by omega)]
        have e2 : allotH 1024 h (-(h : Int) % 8) = u := by unfold allotH; rw [if_pos (by omega)]; omega
        rw [e1, e2] at HA
        have HU := Lib.hid hu
        have HU2 := Lib.hid hu2
        clear e1 e2 hu hu2 O
        go_wp2_with fail
        rw [HU.out]
        refine HA.out.mono ?_
        rintro e w3 ⟨rfl, O3⟩
        have hub : ((u : Int) != (u : Int)) = false := by simp
        go_wp2_with fail
        refine (here_any _ O3.mem).mono ?_
        rintro e w4 ⟨rfl, rfl⟩
        go_wp2_with fail
        have hl := hzl.out
        by_cases h5 : u = 512
        · subst h5
          refine (own_comma_no O3 (by omega) (-3) (by omega) (by omega)).mono ?_
          rintro e w4 ⟨rfl, O4⟩
          go_wp2_with fail
          refine (get_ok _ O4.mem 512 (by omega) (by omega) (by omega)).mono ?_
          rintro e w5 ⟨rfl, rfl⟩
          generalize wrap64 (rd bs (512 : Int).toNat 8 : Nat) = y at *
          go_wp2_with (go_at_call 22; refine (here_any _ O4.mem).mono ?_; rintro e w3 ⟨rfl, rfl⟩)
          go_ret
          exact ⟨rfl, O4.below⟩
        · refine (own_comma O3 (by omega) (-3) HU2.out (by have := HU2.out; omega)).mono ?_
          rintro e w4 ⟨rfl, O4⟩
          have hl4 := Lib.hid (show (putN bs u (-3) 8).length = 1024 by rw [putN_length, hl])
          have HY := Lib.hid (rd_put bs u (-3) (by omega) (by omega))
          go_wp2_with fail
          refine (get_ok _ O4.mem u (by omega) (by have := hl4.out; omega) (by have := HU2.out; omega)).mono ?_
          rintro e w5 ⟨rfl, rfl⟩
          rw [Int.toNat_natCast, HY.out]
          generalize putN bs u (-3) 8 = bs4 at *
          have h5b : ((u : Int) == 512) = false := by simp; omega
          have O4' := O4
          clear O4
          by_cases h6 : u + 8 = 512
          · have h6b : ((u : Int) + 8 == 512) = true := by simp; omega
            go_wp2_with (go_at_call 22; refine (here_any _ O4'.mem).mono ?_; rintro e w3 ⟨rfl, rfl⟩)
            go_ret
            exact ⟨rfl, O4'.below⟩
          · have h6b : ((u : Int) + 8 == 512) = false := by simp; omega
            have HC := Lib.hid (own_ccomma O4' (by omega) 9 (by have := hl4.out; have := HU2.out; omega))
            have h9 : bV 9 = .int .u8 9 := rfl
            rw [h9] at HC
            have HH := Lib.hid (here_any _ O4'.mem)
            clear h9
            go_wp2_with (first | (go_at_call 22; refine HH.out.mono ?_; rintro e w3 ⟨rfl, rfl⟩) | (go_at_call 26; refine HC.out.mono ?_; rintro e w6 ⟨rfl, O6⟩) | (go_at_call 25; refine (comma_un _ O6.mem 1 (by have := HU2.out; omega)).mono ?_; rintro e w7 ⟨rfl, rfl⟩))
            go_ret
            exact ⟨rfl, O6.below⟩
end Go.Proofs.Ytaaebgdlmhpdkaa
