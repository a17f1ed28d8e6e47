/- The walk of MemCommas: for any cells and any bytes it returns true and changes nothing that was there. -/
import Derived.Test.YtaaebgdlmhpdkaaGives
import Derived.Deep.QuietTactic
import Derived.BigQuiet
namespace Go.Proofs.Ytaaebgdlmhpdkaa
open Go.RowKit
def cmN (zs : List Int) : Nat → List UInt8
  | 0 => zbs 1024
  | j + 1 => putN (cmN zs j) (8 * j) (zs.getD j 0) 8
theorem cmN_length (zs : List Int) (j : Nat) : (cmN zs j).length = 1024 := by
  induction j with
  | zero => exact zbs_length 1024
  | succ j ih => rw [cmN, putN_length, ih]
theorem cmN_get (zs : List Int) (j : Nat) (hj : j ≤ 20) (i r : Nat) (hi : i < j) (hr : r < 8) : (cmN zs j)[8 * i + r]? = some (byteOf (zs.getD i 0) r) := by
  induction j with
  | zero => omega
  | succ j ih =>
    rw [cmN, putN_get _ _ _ _ (by rw [cmN_length]; omega)]
    by_cases h : i = j
    · subst h
      rw [if_pos (by omega)]
      congr 2; omega
    · rw [if_neg (by omega)]
      exact ih (by omega) (by omega)
def ccN (bs : List UInt8) (h : Nat) (ys : List UInt8) : Nat → List UInt8
  | 0 => bs
  | j + 1 => fillN (ccN bs h ys j) (h + j) (ys.getD j 0) 1
theorem ccN_length (bs : List UInt8) (h : Nat) (ys : List UInt8) (j : Nat) : (ccN bs h ys j).length = bs.length := by
  induction j with
  | zero => rfl
  | succ j ih => rw [ccN, fillN_length, ih]
theorem ccN_low (bs : List UInt8) (h : Nat) (ys : List UInt8) (j : Nat) (hj : h + j ≤ bs.length) (i : Nat) (hi : i < h) : (ccN bs h ys j)[i]? = bs[i]? := by
  induction j with
  | zero => rfl
  | succ j ih =>
    rw [ccN, fillN_get _ _ _ _ (by rw [ccN_length]; omega), if_neg (by omega)]
    exact ih (by omega)
theorem ccN_high (bs : List UInt8) (h : Nat) (ys : List UInt8) (j : Nat) (hj : h + j ≤ bs.length) (i : Nat) (hi : i < j) : (ccN bs h ys j)[h + i]? = some (ys.getD i 0) := by
  induction j with
  | zero => omega
  | succ j ih =>
    rw [ccN, fillN_get _ _ _ _ (by rw [ccN_length]; omega)]
    by_cases he : i = j
    · subst he; rw [if_pos (by omega)]
    · rw [if_neg (by omega)]; exact ih (by omega) (by omega)
theorem rd_of (bs : List UInt8) (a : Nat) (x : Int) (hx : -9223372036854775808 ≤ x ∧ x ≤ 9223372036854775807) (h : ∀ r, r < 8 → bs[a + r]? = some (byteOf x r)) : wrap64 ((rd bs a 8 : Nat) : Int) = x := by
  have b : ∀ i, i < 8 → ((bs.getD (a + i) 0).toNat : Int) = x / 2 ^ (8 * i) % 256 := fun i hi => by
    rw [List.getD_eq_getElem?_getD, h i hi, ← IntKind.wrap_u8', byteOf_val]; rfl
  have b0 := b 0 (by omega)
  have b1 := b 1 (by omega)
  have b2 := b 2 (by omega)
  have b3 := b 3 (by omega)
  have b4 := b 4 (by omega)
  have b5 := b 5 (by omega)
  have b6 := b 6 (by omega)
  have b7 := b 7 (by omega)
  simp only [rd]
  simp only [Nat.reduceMul, Nat.mul_zero, Int.reducePow, Nat.reducePow] at *
  generalize (bs.getD (a + 0) 0).toNat = c0 at *
  generalize (bs.getD (a + 1) 0).toNat = c1 at *
  generalize (bs.getD (a + 2) 0).toNat = c2 at *
  generalize (bs.getD (a + 3) 0).toNat = c3 at *
  generalize (bs.getD (a + 4) 0).toNat = c4 at *
  generalize (bs.getD (a + 5) 0).toNat = c5 at *
  generalize (bs.getD (a + 6) 0).toNat = c6 at *
  generalize (bs.getD (a + 7) 0).toNat = c7 at *
  unfold wrap64
  omega
theorem commas_rd (zs : List Int) (ys : List UInt8) (m n : Nat) (hm : m ≤ 20) (hn : n ≤ 20) (i : Nat) (hi : i < m) (z : Int) (hz : zs[i]? = some z) (hw : (Lit.int .i64 z).wf = true) : wrap64 ((rd (ccN (cmN zs m) (8 * m) ys n) (8 * i) 8 : Nat) : Int) = z := by
  refine rd_of _ _ _ (wf_i64 hw) (fun r hr => ?_)
  rw [ccN_low _ _ _ _ (by rw [cmN_length]; omega) _ (by omega), cmN_get zs m hm i r hi hr, List.getD_eq_getElem?_getD, hz]
  rfl
theorem commas_text (zs : List Int) (ys : List UInt8) (m n : Nat) (hm : m ≤ 20) (hn : n ≤ 20) (hy : ys.length = n) : seg (ccN (cmN zs m) (8 * m) ys n) (8 * m) n = ys := by
  apply List.ext_getElem?
  intro j
  by_cases hj : j < n
  · rw [seg_get _ _ _ _ hj, ccN_high _ _ _ _ (by rw [cmN_length]; omega) _ hj, List.getD_eq_getElem?_getD]
    rw [List.getElem?_eq_getElem (by omega)]; rfl
  · rw [List.getElem?_eq_none (by rw [seg_length _ _ _ (by rw [ccN_length, cmN_length]; omega)]; omega), List.getElem?_eq_none (by omega)]
/-- A byte of a row that came in, where it is read now; and the row's text. -/
theorem row_byte {W w : World} (hB : Below W.heap.size W w) {a : Option Addr} {len cap : Nat} {zs : List Int} (R : RowIn .u8 W a len cap zs) (n : Nat) (hn : n ≤ len) (j : Nat) (hj : j < n) :
    ∃ b off, a = some ⟨b, off, none⟩ ∧ w.cell? ⟨b, off + j, none⟩ = some (.int .u8 (((bytesIn zs n).getD j 0).toNat : Int)) := by
  obtain ⟨b, off, z, ha, hc, hw, hz⟩ := row_cell hB R j (by omega)
  refine ⟨b, off, ha, ?_⟩
  rw [hc]
  obtain ⟨z1, z2⟩ := wf_u8 hw
  have e : (bytesIn zs n)[j]? = some (UInt8.ofNat z.toNat) := by
    unfold bytesIn
    rw [List.getElem?_map, List.getElem?_take, if_pos hj, hz]; rfl
  rw [List.getD_eq_getElem?_getD, e]
  show some (Value.int .u8 z) = some (Value.int .u8 ((UInt8.ofNat z.toNat).toNat : Int))
  rw [UInt8.toNat_ofNat']
  congr 2; omega
theorem row_text2 {W w : World} (hB : Below W.heap.size W w) {a : Option Addr} {len cap : Nat} {zs : List Int} (R : RowIn .u8 W a len cap zs) (k : Nat) (hk : k ≤ len) :
    (convert 22 9 (.slice a k cap)).run Try.prog w = .ok (strOf (bytesIn zs k)) w ∧ (bytesIn zs k).length = k := by
  rcases R with ⟨rfl, rfl, rfl, rfl⟩ | ⟨x, rfl, hl, hm, hz, hc, hw⟩
  · obtain rfl : k = 0 := by omega
    exact ⟨run_convert_bytes_nil (P := Try.prog) w 22 5 Try.underlying22 Try.underlying5 0 0 9 Try.underlying9, rfl⟩
  · exact ⟨row_conv hB x zs k cap (by omega) hc hw, bytesIn_length zs k (by omega)⟩
theorem Owns.drewN {W w : World} {p g : Nat} {bs : List UInt8} {h : Nat} (O : Owns W w p g bs h) (n : Nat) : Owns W (w.drewN n) p g bs h :=
  ⟨O.mem.drewN n, ⟨O.below.os, O.below.tape, O.below.output, O.below.size, O.below.block⟩, O.pge, O.gge⟩
-- WALKS
set_option maxHeartbeats 2000000 in
set_option maxRecDepth 100000 in
theorem commas_nn (a : Option Addr) (len cap : Nat) (zs : List Int) (a2 : Option Addr) (len2 cap2 : Nat) (zs2 : List Int) (W : World) (R : RowIn .i64 W a len cap zs) (R2 : RowIn .u8 W a2 len2 cap2 zs2) (hlt0 : len ≤ 20) (hlt2 : len2 ≤ 20) :
    Calls Try.prog 8 #[.slice a len cap, .slice a2 len2 cap2] W fun e w' => e = .returned (.bool true) ∧ Below W.heap.size W w' := by
  have hB := Below.refl W.heap.size W
  obtain ⟨l1, l2⟩ := row_le R
  obtain ⟨l3, l4⟩ := row_le R2
  have HR := Lib.hid R
  have HR2 := Lib.hid R2
  clear R R2
  go_enter Try.func8, Try.ntmps8
  try simp only [List.append]
  go_wp2_with fail
  refine (shown_ok W _ hB).mono ?_
  clear hB
  rintro e w1 ⟨rfl, hB⟩
  go_wp2_with fail
  refine (own_new hB 1024 (by omega) (by omega) (by omega)).mono ?_
  rintro e w2 ⟨p, g, rfl, O⟩
  have HO := Lib.hid O
  clear O
  go_wp2_with fail
  go_quiet (fail)
  go_wp2_with fail
  go_loopw [45] (fun i wr => ∃ j : Nat, j ≤ len ∧ i = .int .i64 j ∧ Owns W wr p g (cmN zs j) (8 * j)) (fun i _ => len - (intOf i).toNat)
  case atStart => exact ⟨0, by omega, rfl, HO.out.drewN _⟩
  case round =>
    obtain ⟨j, hj, rfl, O⟩ := hrel
    by_cases hlt : j < len
    · obtain ⟨b, off, z, rfl, hc, hw, hz⟩ := row_cell O.below HR.out j (by omega)
      have HC := Lib.hid (own_comma O (by omega) z (by omega) (by rw [cmN_length]; omega))
      have HZ := Lib.hid (show zs.getD j 0 = z by rw [List.getD_eq_getElem?_getD, hz]; rfl)
      clear O hw hz
      go_wp2_with (go_at_call 25; refine HC.out.mono ?_; rintro e w3 ⟨rfl, O3⟩)
      go_roundw
      case rel => exact ⟨j + 1, by omega, by go_num, by rw [cmN, HZ.out]; exact O3⟩
      case measure => simp [intOf]; omega
    · rw [show j = len by omega] at O
      have HO2 := Lib.hid O
      clear O
      go_wp2_with fail
      have hys := (row_text2 HO2.out.below HR2.out len2 (by omega)).2
      have HRB := Lib.hid (fun (w : World) (hB : Below W.heap.size W w) => row_byte hB HR2.out len2 (by omega))
      have HRT := Lib.hid (fun (w : World) (hB : Below W.heap.size W w) => (row_text2 hB HR2.out len2 (by omega)).1)
      generalize bytesIn zs2 len2 = ys at *
      have HYS := Lib.hid hys
      clear hys
      go_loopw [56] (fun i wr => ∃ k : Nat, k ≤ len2 ∧ i = .int .i64 k ∧ Owns W wr p g (ccN (cmN zs len) (8 * len) ys k) (8 * len + k)) (fun i _ => len2 - (intOf i).toNat)
      case atStart => exact ⟨0, by omega, rfl, HO2.out⟩
      case round =>
        obtain ⟨k, hk, rfl, O⟩ := hrel
        by_cases hlt : k < len2
        · obtain ⟨b, off, rfl, hc⟩ := HRB.out _ O.below k hlt
          have HC := Lib.hid (own_ccomma O (by omega) (ys.getD k 0) (by rw [ccN_length, cmN_length]; omega))
          have HF := Lib.hid (show ccN (cmN zs len) (8 * len) ys (k + 1) = fillN (ccN (cmN zs len) (8 * len) ys k) (8 * len + k) (ys.getD k 0) 1 from rfl)
          unfold bV at HC
          generalize (ys.getD k 0) = c at *
          clear O
          go_wp2_with (go_at_call 26; refine HC.out.mono ?_; rintro e w3 ⟨rfl, O3⟩)
          go_roundw
          case rel => exact ⟨k + 1, by omega, by go_num, by rw [HF.out]; exact O3⟩
          case measure => simp [intOf]; omega
        · rw [show k = len2 by omega] at O
          have hl9 := Lib.hid (show (ccN (cmN zs len) (8 * len) ys len2).length = 1024 by rw [ccN_length, cmN_length])
          have HRD := Lib.hid (fun (i : Nat) (hi : i < len) (z : Int) (hz : zs[i]? = some z) (hw : (Lit.int .i64 z).wf = true) => commas_rd zs ys len len2 (by omega) (by omega) i hi z hz hw)
          have HTX := Lib.hid (commas_text zs ys len len2 (by omega) (by omega) HYS.out)
          generalize ccN (cmN zs len) (8 * len) ys len2 = bs at *
          obtain ⟨h, hh⟩ : ∃ h : Nat, 8 * len + len2 = h := ⟨_, rfl⟩
          rw [hh] at O
          have HO3 := Lib.hid O
          clear O
          go_wp2_with fail
          go_loop [67] (fun i => ∃ i' : Nat, i' ≤ len ∧ i = .int .i64 i') (fun i => len - (intOf i).toNat)
          case atStart => exact ⟨0, by omega, rfl⟩
          case round =>
            obtain ⟨i, hi, rfl⟩ := hrel
            by_cases hlt : i < len
            · obtain ⟨b, off, z, rfl, hc, hw, hz⟩ := row_cell HO3.out.below HR.out i (by omega)
              have HG := get_ok _ HO3.out.mem (8 * (i : Int)) (by omega) (by rw [hl9.out]; omega) (by omega)
              rw [show (8 * (i : Int)).toNat = 8 * i by omega, HRD.out i hlt z hz hw] at HG
              have HG' := Lib.hid HG
              have hzz : (z != z) = false := by simp
              clear hz hw HG
              go_wp2_with (go_at_call 14; refine HG'.out.mono ?_; rintro e w3 ⟨rfl, rfl⟩)
              go_round
              case rel => exact ⟨i + 1, by omega, by go_num⟩
              case measure => simp [intOf]; omega
            · have hi3 : ¬ (i : Int) < len := by omega
              have HT := (text_ok _ HO3.out.mem (8 * (len : Int)) (len2 : Int) (by omega) (by omega) (by rw [hl9.out]; omega))
              rw [show ((8 * (len : Int))).toNat = 8 * len by omega, show ((len2 : Int)).toNat = len2 by omega, HTX.out] at HT
              obtain ⟨s, hs⟩ : ∃ s : ByteArray, strOf ys = .string s := ⟨_, rfl⟩
              rw [hs] at HRT HT
              have HT' := Lib.hid HT
              clear hs HT
              go_wp2_with fail
              refine HT'.out.mono ?_
              rintro e w3 ⟨rfl, rfl⟩
              go_wp2_with fail
              refine (here_any _ HO3.out.mem).mono ?_
              rintro e w3 ⟨rfl, rfl⟩
              have hq : ((h : Int) == (8 * (len : Int)) + (len2 : Int)) = true := by simp; omega
              go_wp2_with fail
              by_cases h8 : len2 % 8 = 0
              · refine (own_comma HO3.out (by omega) 7 (by omega) (by rw [hl9.out]; omega)).mono ?_
                rintro e w4 ⟨rfl, O4⟩
                have hcv := HRT.out w4 O4.below
                have h9 : (((len2 : Nat) : Int) % 8 == 0) = true := by simp; omega
                go_wp2_with fail
                all_goals (first | go_ret | skip)
                all_goals exact ⟨rfl, O4.below⟩
              · refine (comma_un _ HO3.out.mem 7 (by omega)).mono ?_
                rintro e w4 ⟨rfl, rfl⟩
                have hcv := HRT.out _ HO3.out.below
                have h9 : (((len2 : Nat) : Int) % 8 == 0) = false := by simp; omega
                go_wp2_with (go_at_call 22; refine (here_any _ HO3.out.mem).mono ?_; rintro e w3 ⟨rfl, rfl⟩)
                all_goals (first | go_ret | skip)
                all_goals exact ⟨rfl, HO3.out.below⟩
set_option maxHeartbeats 2000000 in
set_option maxRecDepth 100000 in
theorem commas_ln (a : Option Addr) (len cap : Nat) (zs : List Int) (a2 : Option Addr) (len2 cap2 : Nat) (zs2 : List Int) (W : World) (R : RowIn .i64 W a len cap zs) (R2 : RowIn .u8 W a2 len2 cap2 zs2) (hlt0 : 20 < len) (hlt2 : len2 ≤ 20) :
    Calls Try.prog 8 #[.slice a len cap, .slice a2 len2 cap2] W fun e w' => e = .returned (.bool true) ∧ Below W.heap.size W w' := by
  have hB := Below.refl W.heap.size W
  obtain ⟨l1, l2⟩ := row_le R
  obtain ⟨l3, l4⟩ := row_le R2
  have HR := Lib.hid R
  have HR2 := Lib.hid R2
  clear R R2
  go_enter Try.func8, Try.ntmps8
  try simp only [List.append]
  go_wp2_with fail
  refine (shown_ok W _ hB).mono ?_
  clear hB
  rintro e w1 ⟨rfl, hB⟩
  go_wp2_with fail
  refine (own_new hB 1024 (by omega) (by omega) (by omega)).mono ?_
  rintro e w2 ⟨p, g, rfl, O⟩
  have HO := Lib.hid O
  clear O
  go_wp2_with fail
  go_quiet (fail)
  go_wp2_with fail
  go_loopw [45] (fun i wr => ∃ j : Nat, j ≤ 20 ∧ i = .int .i64 j ∧ Owns W wr p g (cmN zs j) (8 * j)) (fun i _ => 20 - (intOf i).toNat)
  case atStart => exact ⟨0, by omega, rfl, HO.out.drewN _⟩
  case round =>
    obtain ⟨j, hj, rfl, O⟩ := hrel
    by_cases hlt : j < 20
    · obtain ⟨b, off, z, rfl, hc, hw, hz⟩ := row_cell O.below HR.out j (by omega)
      have HC := Lib.hid (own_comma O (by omega) z (by omega) (by rw [cmN_length]; omega))
      have HZ := Lib.hid (show zs.getD j 0 = z by rw [List.getD_eq_getElem?_getD, hz]; rfl)
      clear O hw hz
      go_wp2_with (go_at_call 25; refine HC.out.mono ?_; rintro e w3 ⟨rfl, O3⟩)
      go_roundw
      case rel => exact ⟨j + 1, by omega, by go_num, by rw [cmN, HZ.out]; exact O3⟩
      case measure => simp [intOf]; omega
    · rw [show j = 20 by omega] at O
      have HO2 := Lib.hid O
      clear O
      go_wp2_with fail
      have hys := (row_text2 HO2.out.below HR2.out len2 (by omega)).2
      have HRB := Lib.hid (fun (w : World) (hB : Below W.heap.size W w) => row_byte hB HR2.out len2 (by omega))
      have HRT := Lib.hid (fun (w : World) (hB : Below W.heap.size W w) => (row_text2 hB HR2.out len2 (by omega)).1)
      generalize bytesIn zs2 len2 = ys at *
      have HYS := Lib.hid hys
      clear hys
      go_loopw [56] (fun i wr => ∃ k : Nat, k ≤ len2 ∧ i = .int .i64 k ∧ Owns W wr p g (ccN (cmN zs 20) (8 * 20) ys k) (8 * 20 + k)) (fun i _ => len2 - (intOf i).toNat)
      case atStart => exact ⟨0, by omega, rfl, HO2.out⟩
      case round =>
        obtain ⟨k, hk, rfl, O⟩ := hrel
        by_cases hlt : k < len2
        · obtain ⟨b, off, rfl, hc⟩ := HRB.out _ O.below k hlt
          have HC := Lib.hid (own_ccomma O (by omega) (ys.getD k 0) (by rw [ccN_length, cmN_length]; omega))
          have HF := Lib.hid (show ccN (cmN zs 20) (8 * 20) ys (k + 1) = fillN (ccN (cmN zs 20) (8 * 20) ys k) (8 * 20 + k) (ys.getD k 0) 1 from rfl)
          unfold bV at HC
          generalize (ys.getD k 0) = c at *
          clear O
          go_wp2_with (go_at_call 26; refine HC.out.mono ?_; rintro e w3 ⟨rfl, O3⟩)
          go_roundw
          case rel => exact ⟨k + 1, by omega, by go_num, by rw [HF.out]; exact O3⟩
          case measure => simp [intOf]; omega
        · rw [show k = len2 by omega] at O
          have hl9 := Lib.hid (show (ccN (cmN zs 20) (8 * 20) ys len2).length = 1024 by rw [ccN_length, cmN_length])
          have HRD := Lib.hid (fun (i : Nat) (hi : i < 20) (z : Int) (hz : zs[i]? = some z) (hw : (Lit.int .i64 z).wf = true) => commas_rd zs ys 20 len2 (by omega) (by omega) i hi z hz hw)
          have HTX := Lib.hid (commas_text zs ys 20 len2 (by omega) (by omega) HYS.out)
          generalize ccN (cmN zs 20) (8 * 20) ys len2 = bs at *
          obtain ⟨h, hh⟩ : ∃ h : Nat, 8 * 20 + len2 = h := ⟨_, rfl⟩
          rw [hh] at O
          have HO3 := Lib.hid O
          clear O
          go_wp2_with fail
          go_loop [67] (fun i => ∃ i' : Nat, i' ≤ 20 ∧ i = .int .i64 i') (fun i => 20 - (intOf i).toNat)
          case atStart => exact ⟨0, by omega, rfl⟩
          case round =>
            obtain ⟨i, hi, rfl⟩ := hrel
            by_cases hlt : i < 20
            · obtain ⟨b, off, z, rfl, hc, hw, hz⟩ := row_cell HO3.out.below HR.out i (by omega)
              have HG := get_ok _ HO3.out.mem (8 * (i : Int)) (by omega) (by rw [hl9.out]; omega) (by omega)
              rw [show (8 * (i : Int)).toNat = 8 * i by omega, HRD.out i hlt z hz hw] at HG
              have HG' := Lib.hid HG
              have hzz : (z != z) = false := by simp
              clear hz hw HG
              go_wp2_with (go_at_call 14; refine HG'.out.mono ?_; rintro e w3 ⟨rfl, rfl⟩)
              go_round
              case rel => exact ⟨i + 1, by omega, by go_num⟩
              case measure => simp [intOf]; omega
            · have hi3 : ¬ (i : Int) < (20 : Nat) := by omega
              have HT := (text_ok _ HO3.out.mem (160 : Int) (len2 : Int) (by omega) (by omega) (by rw [hl9.out]; omega))
              rw [show ((160 : Int)).toNat = 8 * 20 by omega, show ((len2 : Int)).toNat = len2 by omega, HTX.out] at HT
              obtain ⟨s, hs⟩ : ∃ s : ByteArray, strOf ys = .string s := ⟨_, rfl⟩
              rw [hs] at HRT HT
              have HT' := Lib.hid HT
              clear hs HT
              go_wp2_with fail
              refine HT'.out.mono ?_
              rintro e w3 ⟨rfl, rfl⟩
              go_wp2_with fail
              refine (here_any _ HO3.out.mem).mono ?_
              rintro e w3 ⟨rfl, rfl⟩
              have hq : ((h : Int) == (160 : Int) + (len2 : Int)) = true := by simp; omega
              go_wp2_with fail
              by_cases h8 : len2 % 8 = 0
              · refine (own_comma HO3.out (by omega) 7 (by omega) (by rw [hl9.out]; omega)).mono ?_
                rintro e w4 ⟨rfl, O4⟩
                have hcv := HRT.out w4 O4.below
                have h9 : (((len2 : Nat) : Int) % 8 == 0) = true := by simp; omega
                go_wp2_with fail
                all_goals (first | go_ret | skip)
                all_goals exact ⟨rfl, O4.below⟩
              · refine (comma_un _ HO3.out.mem 7 (by omega)).mono ?_
                rintro e w4 ⟨rfl, rfl⟩
                have hcv := HRT.out _ HO3.out.below
                have h9 : (((len2 : Nat) : Int) % 8 == 0) = false := by simp; omega
                go_wp2_with (go_at_call 22; refine (here_any _ HO3.out.mem).mono ?_; rintro e w3 ⟨rfl, rfl⟩)
                all_goals (first | go_ret | skip)
                all_goals exact ⟨rfl, HO3.out.below⟩
set_option maxHeartbeats 2000000 in
set_option maxRecDepth 100000 in
theorem commas_nl (a : Option Addr) (len cap : Nat) (zs : List Int) (a2 : Option Addr) (len2 cap2 : Nat) (zs2 : List Int) (W : World) (R : RowIn .i64 W a len cap zs) (R2 : RowIn .u8 W a2 len2 cap2 zs2) (hlt0 : len ≤ 20) (hlt2 : 20 < len2) :
    Calls Try.prog 8 #[.slice a len cap, .slice a2 len2 cap2] W fun e w' => e = .returned (.bool true) ∧ Below W.heap.size W w' := by
  have hB := Below.refl W.heap.size W
  obtain ⟨l1, l2⟩ := row_le R
  obtain ⟨l3, l4⟩ := row_le R2
  have HR := Lib.hid R
  have HR2 := Lib.hid R2
  clear R R2
  go_enter Try.func8, Try.ntmps8
  try simp only [List.append]
  go_wp2_with fail
  refine (shown_ok W _ hB).mono ?_
  clear hB
  rintro e w1 ⟨rfl, hB⟩
  go_wp2_with fail
  refine (own_new hB 1024 (by omega) (by omega) (by omega)).mono ?_
  rintro e w2 ⟨p, g, rfl, O⟩
  have HO := Lib.hid O
  clear O
  go_wp2_with fail
  go_quiet (fail)
  go_wp2_with fail
  go_loopw [45] (fun i wr => ∃ j : Nat, j ≤ len ∧ i = .int .i64 j ∧ Owns W wr p g (cmN zs j) (8 * j)) (fun i _ => len - (intOf i).toNat)
  case atStart => exact ⟨0, by omega, rfl, HO.out.drewN _⟩
  case round =>
    obtain ⟨j, hj, rfl, O⟩ := hrel
    by_cases hlt : j < len
    · obtain ⟨b, off, z, rfl, hc, hw, hz⟩ := row_cell O.below HR.out j (by omega)
      have HC := Lib.hid (own_comma O (by omega) z (by omega) (by rw [cmN_length]; omega))
      have HZ := Lib.hid (show zs.getD j 0 = z by rw [List.getD_eq_getElem?_getD, hz]; rfl)
      clear O hw hz
      go_wp2_with (go_at_call 25; refine HC.out.mono ?_; rintro e w3 ⟨rfl, O3⟩)
      go_roundw
      case rel => exact ⟨j + 1, by omega, by go_num, by rw [cmN, HZ.out]; exact O3⟩
      case measure => simp [intOf]; omega
    · rw [show j = len by omega] at O
      have HO2 := Lib.hid O
      clear O
      go_wp2_with fail
      have hys := (row_text2 HO2.out.below HR2.out 20 (by omega)).2
      have HRB := Lib.hid (fun (w : World) (hB : Below W.heap.size W w) => row_byte hB HR2.out 20 (by omega))
      have HRT := Lib.hid (fun (w : World) (hB : Below W.heap.size W w) => (row_text2 hB HR2.out 20 (by omega)).1)
      generalize bytesIn zs2 20 = ys at *
      have HYS := Lib.hid hys
      clear hys
      go_loopw [56] (fun i wr => ∃ k : Nat, k ≤ 20 ∧ i = .int .i64 k ∧ Owns W wr p g (ccN (cmN zs len) (8 * len) ys k) (8 * len + k)) (fun i _ => 20 - (intOf i).toNat)
      case atStart => exact ⟨0, by omega, rfl, HO2.out⟩
      case round =>
        obtain ⟨k, hk, rfl, O⟩ := hrel
        by_cases hlt : k < 20
        · obtain ⟨b, off, rfl, hc⟩ := HRB.out _ O.below k hlt
          have HC := Lib.hid (own_ccomma O (by omega) (ys.getD k 0) (by rw [ccN_length, cmN_length]; omega))
          have HF := Lib.hid (show ccN (cmN zs len) (8 * len) ys (k + 1) = fillN (ccN (cmN zs len) (8 * len) ys k) (8 * len + k) (ys.getD k 0) 1 from rfl)
          unfold bV at HC
          generalize (ys.getD k 0) = c at *
          clear O
          go_wp2_with (go_at_call 26; refine HC.out.mono ?_; rintro e w3 ⟨rfl, O3⟩)
          go_roundw
          case rel => exact ⟨k + 1, by omega, by go_num, by rw [HF.out]; exact O3⟩
          case measure => simp [intOf]; omega
        · rw [show k = 20 by omega] at O
          have hl9 := Lib.hid (show (ccN (cmN zs len) (8 * len) ys 20).length = 1024 by rw [ccN_length, cmN_length])
          have HRD := Lib.hid (fun (i : Nat) (hi : i < len) (z : Int) (hz : zs[i]? = some z) (hw : (Lit.int .i64 z).wf = true) => commas_rd zs ys len 20 (by omega) (by omega) i hi z hz hw)
          have HTX := Lib.hid (commas_text zs ys len 20 (by omega) (by omega) HYS.out)
          generalize ccN (cmN zs len) (8 * len) ys 20 = bs at *
          obtain ⟨h, hh⟩ : ∃ h : Nat, 8 * len + 20 = h := ⟨_, rfl⟩
          rw [hh] at O
          have HO3 := Lib.hid O
          clear O
          go_wp2_with fail
          go_loop [67] (fun i => ∃ i' : Nat, i' ≤ len ∧ i = .int .i64 i') (fun i => len - (intOf i).toNat)
          case atStart => exact ⟨0, by omega, rfl⟩
          case round =>
            obtain ⟨i, hi, rfl⟩ := hrel
            by_cases hlt : i < len
            · obtain ⟨b, off, z, rfl, hc, hw, hz⟩ := row_cell HO3.out.below HR.out i (by omega)
              have HG := get_ok _ HO3.out.mem (8 * (i : Int)) (by omega) (by rw [hl9.out]; omega) (by omega)
              rw [show (8 * (i : Int)).toNat = 8 * i by omega, HRD.out i hlt z hz hw] at HG
              have HG' := Lib.hid HG
              have hzz : (z != z) = false := by simp
              clear hz hw HG
              go_wp2_with (go_at_call 14; refine HG'.out.mono ?_; rintro e w3 ⟨rfl, rfl⟩)
              go_round
              case rel => exact ⟨i + 1, by omega, by go_num⟩
              case measure => simp [intOf]; omega
            · have hi3 : ¬ (i : Int) < len := by omega
              have HT := (text_ok _ HO3.out.mem (8 * (len : Int)) (20 : Int) (by omega) (by omega) (by rw [hl9.out]; omega))
              rw [show ((8 * (len : Int))).toNat = 8 * len by omega, show ((20 : Int)).toNat = 20 by omega, HTX.out] at HT
              obtain ⟨s, hs⟩ : ∃ s : ByteArray, strOf ys = .string s := ⟨_, rfl⟩
              rw [hs] at HRT HT
              have HT' := Lib.hid HT
              clear hs HT
              go_wp2_with fail
              refine HT'.out.mono ?_
              rintro e w3 ⟨rfl, rfl⟩
              go_wp2_with fail
              refine (here_any _ HO3.out.mem).mono ?_
              rintro e w3 ⟨rfl, rfl⟩
              have hq : ((h : Int) == (8 * (len : Int)) + (20 : Int)) = true := by simp; omega
              go_wp2_with fail
              refine (comma_un _ HO3.out.mem 7 (by omega)).mono ?_
              rintro e w4 ⟨rfl, rfl⟩
              have hcv := HRT.out _ HO3.out.below
              go_wp2_with (go_at_call 22; refine (here_any _ HO3.out.mem).mono ?_; rintro e w3 ⟨rfl, rfl⟩)
              all_goals (first | go_ret | skip)
              all_goals exact ⟨rfl, HO3.out.below⟩
set_option maxHeartbeats 2000000 in
set_option maxRecDepth 100000 in
theorem commas_ll (a : Option Addr) (len cap : Nat) (zs : List Int) (a2 : Option Addr) (len2 cap2 : Nat) (zs2 : List Int) (W : World) (R : RowIn .i64 W a len cap zs) (R2 : RowIn .u8 W a2 len2 cap2 zs2) (hlt0 : 20 < len) (hlt2 : 20 < len2) :
    Calls Try.prog 8 #[.slice a len cap, .slice a2 len2 cap2] W fun e w' => e = .returned (.bool true) ∧ Below W.heap.size W w' := by
  have hB := Below.refl W.heap.size W
  obtain ⟨l1, l2⟩ := row_le R
  obtain ⟨l3, l4⟩ := row_le R2
  have HR := Lib.hid R
  have HR2 := Lib.hid R2
  clear R R2
  go_enter Try.func8, Try.ntmps8
  try simp only [List.append]
  go_wp2_with fail
  refine (shown_ok W _ hB).mono ?_
  clear hB
  rintro e w1 ⟨rfl, hB⟩
  go_wp2_with fail
  refine (own_new hB 1024 (by omega) (by omega) (by omega)).mono ?_
  rintro e w2 ⟨p, g, rfl, O⟩
  have HO := Lib.hid O
  clear O
  go_wp2_with fail
  go_quiet (fail)
  go_wp2_with fail
  go_loopw [45] (fun i wr => ∃ j : Nat, j ≤ 20 ∧ i = .int .i64 j ∧ Owns W wr p g (cmN zs j) (8 * j)) (fun i _ => 20 - (intOf i).toNat)
  case atStart => exact ⟨0, by omega, rfl, HO.out.drewN _⟩
  case round =>
    obtain ⟨j, hj, rfl, O⟩ := hrel
    by_cases hlt : j < 20
    · obtain ⟨b, off, z, rfl, hc, hw, hz⟩ := row_cell O.below HR.out j (by omega)
      have HC := Lib.hid (own_comma O (by omega) z (by omega) (by rw [cmN_length]; omega))
      have HZ := Lib.hid (show zs.getD j 0 = z by rw [List.getD_eq_getElem?_getD, hz]; rfl)
      clear O hw hz
      go_wp2_with (go_at_call 25; refine HC.out.mono ?_; rintro e w3 ⟨rfl, O3⟩)
      go_roundw
      case rel => exact ⟨j + 1, by omega, by go_num, by rw [cmN, HZ.out]; exact O3⟩
      case measure => simp [intOf]; omega
    · rw [show j = 20 by omega] at O
      have HO2 := Lib.hid O
      clear O
      go_wp2_with fail
      have hys := (row_text2 HO2.out.below HR2.out 20 (by omega)).2
      have HRB := Lib.hid (fun (w : World) (hB : Below W.heap.size W w) => row_byte hB HR2.out 20 (by omega))
      have HRT := Lib.hid (fun (w : World) (hB : Below W.heap.size W w) => (row_text2 hB HR2.out 20 (by omega)).1)
      generalize bytesIn zs2 20 = ys at *
      have HYS := Lib.hid hys
      clear hys
      go_loopw [56] (fun i wr => ∃ k : Nat, k ≤ 20 ∧ i = .int .i64 k ∧ Owns W wr p g (ccN (cmN zs 20) (8 * 20) ys k) (8 * 20 + k)) (fun i _ => 20 - (intOf i).toNat)
      case atStart => exact ⟨0, by omega, rfl, HO2.out⟩
      case round =>
        obtain ⟨k, hk, rfl, O⟩ := hrel
        by_cases hlt : k < 20
        · obtain ⟨b, off, rfl, hc⟩ := HRB.out _ O.below k hlt
          have HC := Lib.hid (own_ccomma O (by omega) (ys.getD k 0) (by rw [ccN_length, cmN_length]; omega))
          have HF := Lib.hid (show ccN (cmN zs 20) (8 * 20) ys (k + 1) = fillN (ccN (cmN zs 20) (8 * 20) ys k) (8 * 20 + k) (ys.getD k 0) 1 from rfl)
          unfold bV at HC
          generalize (ys.getD k 0) = c at *
          clear O
          go_wp2_with (go_at_call 26; refine HC.out.mono ?_; rintro e w3 ⟨rfl, O3⟩)
          go_roundw
          case rel => exact ⟨k + 1, by omega, by go_num, by rw [HF.out]; exact O3⟩
          case measure => simp [intOf]; omega
        · rw [show k = 20 by omega] at O
          have hl9 := Lib.hid (show (ccN (cmN zs 20) (8 * 20) ys 20).length = 1024 by rw [ccN_length, cmN_length])
          have HRD := Lib.hid (fun (i : Nat) (hi : i < 20) (z : Int) (hz : zs[i]? = some z) (hw : (Lit.int .i64 z).wf = true) => commas_rd zs ys 20 20 (by omega) (by omega) i hi z hz hw)
          have HTX := Lib.hid (commas_text zs ys 20 20 (by omega) (by omega) HYS.out)
          generalize ccN (cmN zs 20) (8 * 20) ys 20 = bs at *
          obtain ⟨h, hh⟩ : ∃ h : Nat, 8 * 20 + 20 = h := ⟨_, rfl⟩
          rw [hh] at O
          have HO3 := Lib.hid O
          clear O
          go_wp2_with fail
          go_loop [67] (fun i => ∃ i' : Nat, i' ≤ 20 ∧ i = .int .i64 i') (fun i => 20 - (intOf i).toNat)
          case atStart => exact ⟨0, by omega, rfl⟩
          case round =>
            obtain ⟨i, hi, rfl⟩ := hrel
            by_cases hlt : i < 20
            · obtain ⟨b, off, z, rfl, hc, hw, hz⟩ := row_cell HO3.out.below HR.out i (by omega)
              have HG := get_ok _ HO3.out.mem (8 * (i : Int)) (by omega) (by rw [hl9.out]; omega) (by omega)
              rw [show (8 * (i : Int)).toNat = 8 * i by omega, HRD.out i hlt z hz hw] at HG
              have HG' := Lib.hid HG
              have hzz : (z != z) = false := by simp
              clear hz hw HG
              go_wp2_with (go_at_call 14; refine HG'.out.mono ?_; rintro e w3 ⟨rfl, rfl⟩)
              go_round
              case rel => exact ⟨i + 1, by omega, by go_num⟩
              case measure => simp [intOf]; omega
            · have hi3 : ¬ (i : Int) < (20 : Nat) := by omega
              have HT := (text_ok _ HO3.out.mem (160 : Int) (20 : Int) (by omega) (by omega) (by rw [hl9.out]; omega))
              rw [show ((160 : Int)).toNat = 8 * 20 by omega, show ((20 : Int)).toNat = 20 by omega, HTX.out] at HT
              obtain ⟨s, hs⟩ : ∃ s : ByteArray, strOf ys = .string s := ⟨_, rfl⟩
              rw [hs] at HRT HT
              have HT' := Lib.hid HT
              clear hs HT
              go_wp2_with fail
              refine HT'.out.mono ?_
              rintro e w3 ⟨rfl, rfl⟩
              go_wp2_with fail
              refine (here_any _ HO3.out.mem).mono ?_
              rintro e w3 ⟨rfl, rfl⟩
              have hq : ((h : Int) == (180 : Int)) = true := by simp; omega
              go_wp2_with fail
              refine (comma_un _ HO3.out.mem 7 (by omega)).mono ?_
              rintro e w4 ⟨rfl, rfl⟩
              have hcv := HRT.out _ HO3.out.below
              go_wp2_with (go_at_call 22; refine (here_any _ HO3.out.mem).mono ?_; rintro e w3 ⟨rfl, rfl⟩)
              all_goals (first | go_ret | skip)
              all_goals exact ⟨rfl, HO3.out.below⟩
theorem walk_MemCommas (a : Option Addr) (len cap : Nat) (zs : List Int) (a2 : Option Addr) (len2 cap2 : Nat) (zs2 : List Int) (W : World) (R : RowIn .i64 W a len cap zs) (R2 : RowIn .u8 W a2 len2 cap2 zs2) :
    Calls Try.prog 8 #[.slice a len cap, .slice a2 len2 cap2] W fun e w' => e = .returned (.bool true) ∧ Below W.heap.size W w' := by
  rcases Nat.lt_or_ge 20 len with h | h <;> rcases Nat.lt_or_ge 20 len2 with h2 | h2
  · exact commas_ll a len cap zs a2 len2 cap2 zs2 W R R2 h h2
  · exact commas_ln a len cap zs a2 len2 cap2 zs2 W R R2 h h2
  · exact commas_nl a len cap zs a2 len2 cap2 zs2 W R R2 h h2
  · exact commas_nn a len cap zs a2 len2 cap2 zs2 W R R2 h h2
end Go.Proofs.Ytaaebgdlmhpdkaa
