/- The walk of MemBytes: for any bytes, any place, any byte it returns true and changes nothing that was there. -/
import Derived.Test.YtaaebgdlmhpdkaaFacts
namespace Go.Proofs.Ytaaebgdlmhpdkaa
open Go.RowKit
theorem rd_byte (bs : List UInt8) (a r : Nat) (hr : r < 8) : rd bs a 8 / 2 ^ (8 * r) % 256 = (bs.getD (a + r) 0).toNat := by
  have b0 := (bs.getD (a + 0) 0).toNat_lt
  have b1 := (bs.getD (a + 1) 0).toNat_lt
  have b2 := (bs.getD (a + 2) 0).toNat_lt
  have b3 := (bs.getD (a + 3) 0).toNat_lt
  have b4 := (bs.getD (a + 4) 0).toNat_lt
  have b5 := (bs.getD (a + 5) 0).toNat_lt
  have b6 := (bs.getD (a + 6) 0).toNat_lt
  have b7 := (bs.getD (a + 7) 0).toNat_lt
  simp only [rd]
  rcases (show r = 0 ∨ r = 1 ∨ r = 2 ∨ r = 3 ∨ r = 4 ∨ r = 5 ∨ r = 6 ∨ r = 7 by omega) with rfl | rfl | rfl | rfl | rfl | rfl | rfl | rfl <;> simp only [Nat.reduceMul, Nat.mul_zero, Nat.reducePow] at * <;> omega
theorem splice_seg (bs : List UInt8) (a : Nat) (s : List UInt8) (h : a + s.length ≤ bs.length) : seg (spliceB bs a s) a s.length = s := by
  apply List.ext_getElem?
  intro j
  by_cases hj : j < s.length
  · rw [seg_get _ _ _ _ hj, splice_get _ _ _ h, if_pos (by omega)]
    congr 1; omega
  · rw [List.getElem?_eq_none (by rw [seg_length _ _ _ (by rw [spliceB_length _ _ _ h]; exact h)]; omega), List.getElem?_eq_none (by omega)]
theorem strOf_str (s : ByteArray) : strOf s.data.toList = .string s := by unfold strOf; rw [Array.toArray_toList]
theorem u64_rd (bs : List UInt8) (a : Nat) : IntKind.u64.wrap (wrap64 (rd bs a 8 : Nat)) = (rd bs a 8 : Nat) := by
  have h := rd_lt bs a 8
  simp only [Nat.reduceMul, Nat.reducePow] at h
  rw [IntKind.wrap_u64]; unfold wrap64; omega
set_option maxHeartbeats 2000000 in
set_option maxRecDepth 100000 in
theorem walk_MemBytes (a : Option Addr) (len cap : Nat) (zs : List Int) (at_ c : Int) (W : World) (R : RowIn .u8 W a len cap zs) (hat : (Lit.int .u16 at_).wf = true) (hc : (Lit.int .u8 c).wf = true) :
    Calls Try.prog 4 #[.slice a len cap, .int .u16 at_, .int .u8 c] W fun e w' => e = .returned (.bool true) ∧ Below W.heap.size W w' := by
  have hB := Below.refl W.heap.size W
  obtain ⟨n1, n2⟩ := wf_u16 hat
  obtain ⟨cc, rfl⟩ : ∃ cc : UInt8, (cc.toNat : Int) = c := by
    obtain ⟨c1, c2⟩ := wf_u8 hc
    exact ⟨UInt8.ofNat c.toNat, by rw [UInt8.toNat_ofNat']; omega⟩
  obtain ⟨l1, l2⟩ := row_le R
  have HR := Lib.hid R
  clear R hat hc
  go_enter Try.func4, Try.ntmps4
  try simp only [List.append]
  go_wp2_with fail
  refine (shown_ok W _ hB).mono ?_
  clear hB
  rintro e w1 ⟨rfl, hB⟩
  go_wp2_with fail
  refine (own_new hB 1024 (by omega) (by omega) (by omega)).mono ?_
  rintro e w2 ⟨p, g, rfl, O⟩
  rcases Nat.lt_or_ge 200 len with hlt | hge
  · obtain ⟨s, hs, hcv⟩ := row_text O.below HR.out 200 (by omega)
    have hs2 : s.size ≤ 200 := by omega
    have hat1 : 0 ≤ at_ % 500 := by omega
    have hat2 : at_ % 500 ≤ 499 := by omega
    have HS := Lib.hid hs
    clear hs
    go_wp2_with fail
    obtain ⟨k, hk⟩ := Int.eq_ofNat_of_zero_le hat1
    rw [hk] at hat1 hat2 ⊢
    clear hk n1 n2
    have hkn : k ≤ 499 := by omega
    refine (own_write O k s (by omega) (by rw [zbs_length]; omega)).mono ?_
    rintro e w3 ⟨rfl, O3⟩
    have hsl := Lib.hid (str_len s)
    have hfit := Lib.hid (show k + s.data.toList.length ≤ (zbs 1024).length by rw [hsl.out, zbs_length]; omega)
    have O3' : Owns W w3 p g (spliceB (zbs 1024) k s.data.toList) 0 := O3
    clear O3
    have hb3 := Lib.hid (show (spliceB (zbs 1024) k s.data.toList).length = 1024 by rw [spliceB_length _ _ _ hfit.out, zbs_length])
    go_wp2_with fail
    refine (text_ok w3 O3'.mem k s.size (by omega) (by omega) (by rw [hb3.out]; omega)).mono ?_
    rintro e w4 ⟨rfl, rfl⟩
    have hseg : strOf (seg (spliceB (zbs 1024) k s.data.toList) (k : Int).toNat (s.size : Int).toNat) = .string s := by
      rw [Int.toNat_natCast, Int.toNat_natCast, ← hsl.out, splice_seg _ _ _ hfit.out, strOf_str]
    rw [hseg]
    clear hseg
    go_wp2_with fail
    have HG := Lib.hid (fun (j : Nat) (hj : j < s.size) => (show (((spliceB (zbs 1024) k s.data.toList).getD (k + j) 0) = s[j]) by
      rw [List.getD_eq_getElem?_getD, splice_get _ _ _ hfit.out, if_pos (by rw [hsl.out]; omega), show k + j - k = j by omega, str_get s j hj]; rfl))
    generalize spliceB (zbs 1024) k s.data.toList = bs at *
    have OH := Lib.hid O3'
    clear O3'
    go_loop [58] (fun i => ∃ j : Nat, j ≤ s.size ∧ i = .int .i64 j) (fun i => s.size - (intOf i).toNat)
    case atStart => exact ⟨0, by omega, rfl⟩
    case round =>
      obtain ⟨j, hj, rfl⟩ := hrel
      by_cases hlt : j < s.size
      · have hG := HG.out j hlt
        have hgb : Calls Try.prog 17 #[.pointer (some ⟨p, 0, none⟩), .int .i64 ((k : Int) + (j : Int))] w3 fun e w' => e = .returned (.tuple #[.int .u8 (s[j].toNat : Int), .int .i64 0]) ∧ w3 = w' := by
          refine (getb_ok w3 OH.out.mem ((k : Int) + (j : Int)) (by omega) (by rw [hb3.out]; omega)).mono ?_
          rintro e w' ⟨rfl, rfl⟩
          have e1 : ((k : Int) + (j : Int)).toNat = k + j := by omega
          rw [e1, hG]
          exact ⟨rfl, rfl⟩
        have HGB := Lib.hid hgb
        have e8 : k + j = (k + j) / 8 * 8 + (k + j) % 8 := by omega
        have hr8 : (k + j) % 8 < 8 := by omega
        have hgc : ∃ y : Int, Calls Try.prog 14 #[.pointer (some ⟨p, 0, none⟩), .int .i64 (((k : Int) + (j : Int)) / 8 * 8)] w3 (fun e w' => e = .returned (.tuple #[.int .i64 y, .int .i64 0]) ∧ w3 = w') ∧ IntKind.u64.wrap y / 2 ^ (8 * ((k + j) % 8)) % 256 = (s[j].toNat : Int) := by
          refine ⟨_, get_ok w3 OH.out.mem _ (by omega) (by rw [hb3.out]; omega) (by omega), ?_⟩
          have e1 : (((k : Int) + (j : Int)) / 8 * 8).toNat = (k + j) / 8 * 8 := by omega
          rw [e1, u64_rd]
          have h2 := rd_byte bs ((k + j) / 8 * 8) ((k + j) % 8) hr8
          rw [← e8, hG] at h2
          have e3 : ((2 : Int) ^ (8 * ((k + j) % 8))) = ((2 ^ (8 * ((k + j) % 8)) : Nat) : Int) := by simp
          rw [e3, ← Int.natCast_ediv]
          omega
        obtain ⟨y, hgc, hy⟩ := hgc
        have HGC := Lib.hid hgc
        have hyb : (IntKind.u64.wrap y / 2 ^ (8 * ((k + j) % 8)) % 256 != (s[j].toNat : Int)) = false := by rw [hy]; simp
        clear hgb hG hgc e8 hr8 hy
        go_wp2_with (first | (go_at_call 17; refine HGB.out.mono ?_; rintro e w' ⟨rfl, rfl⟩) | (go_at_call 14; refine HGC.out.mono ?_; rintro e w' ⟨rfl, rfl⟩))
        go_round
        case rel => exact ⟨j + 1, by omega, by go_num⟩
        case measure => simp [intOf]; omega
      · obtain rfl : j = s.size := by omega
        go_wp2_with fail
        refine (own_fill OH.out k s.size cc (by omega) (by omega) (by rw [hb3.out]; omega)).mono ?_
        rintro e w5 ⟨rfl, O5⟩
        have O5' : Owns W w5 p g (fillN bs k cc s.size) 0 := O5
        clear O5
        have hb5 := Lib.hid (show (fillN bs k cc s.size).length = 1024 by rw [fillN_length, hb3.out])
        go_wp2_with fail
        refine (text_ok w5 O5'.mem k s.size (by omega) (by omega) (by rw [hb5.out]; omega)).mono ?_
        rintro e w6 ⟨rfl, rfl⟩
        obtain ⟨u, hu⟩ : ∃ u : ByteArray, strOf (seg (fillN bs k cc s.size) (k : Int).toNat (s.size : Int).toNat) = .string u := ⟨_, rfl⟩
        rw [hu]
        have hus : u.size = s.size := by rw [strOf_size hu, seg_length _ _ _ (by rw [hb5.out]; omega)]; omega
        have HU := Lib.hid (fun (i : Nat) (hi : i < u.size) => (show u[i] = cc by
          have hd := str_get u i hi
          rw [strOf_data hu, seg_get _ _ _ _ (by omega), Int.toNat_natCast, fillN_get _ _ _ _ (by rw [hb3.out]; omega), if_pos (by omega)] at hd
          injection hd with hd
          exact hd.symm))
        have HUS := Lib.hid hus
        have hus2 : u.size ≤ 200 := by omega
        clear hu hus
        go_wp2_with fail
        go_loop [122] (fun i => ∃ j : Nat, j ≤ u.size ∧ i = .int .i64 j) (fun i => u.size - (intOf i).toNat)
        case atStart => exact ⟨0, by omega, rfl⟩
        case round =>
          obtain ⟨j, hj, rfl⟩ := hrel
          by_cases hlt : j < u.size
          · have hq : ((u[j].toNat : Int) != (cc.toNat : Int)) = false := by rw [HU.out j hlt]; simp
            go_wp2
            go_round
            case rel => exact ⟨j + 1, by omega, by go_num⟩
            case measure => simp [intOf]; omega
          · have hz : ((u.size : Int) == (s.size : Int)) = true := by rw [HUS.out]; simp
            go_wp2
            go_ret
            exact ⟨rfl, O5'.below⟩
  · obtain ⟨s, hs, hcv⟩ := row_text O.below HR.out len (by omega)
    have hs2 : s.size ≤ 200 := by omega
    have hat1 : 0 ≤ at_ % 500 := by omega
    have hat2 : at_ % 500 ≤ 499 := by omega
    have HS := Lib.hid hs
    clear hs
    go_wp2_with fail
    obtain ⟨k, hk⟩ := Int.eq_ofNat_of_zero_le hat1
    rw [hk] at hat1 hat2 ⊢
    clear hk n1 n2
    have hkn : k ≤ 499 := by omega
    refine (own_write O k s (by omega) (by rw [zbs_length]; omega)).mono ?_
    rintro e w3 ⟨rfl, O3⟩
    have hsl := Lib.hid (str_len s)
    have hfit := Lib.hid (show k + s.data.toList.length ≤ (zbs 1024).length by rw [hsl.out, zbs_length]; omega)
    have O3' : Owns W w3 p g (spliceB (zbs 1024) k s.data.toList) 0 := O3
    clear O3
    have hb3 := Lib.hid (show (spliceB (zbs 1024) k s.data.toList).length = 1024 by rw [spliceB_length _ _ _ hfit.out, zbs_length])
    go_wp2_with fail
    refine (text_ok w3 O3'.mem k s.size (by omega) (by omega) (by rw [hb3.out]; omega)).mono ?_
    rintro e w4 ⟨rfl, rfl⟩
    have hseg : strOf (seg (spliceB (zbs 1024) k s.data.toList) (k : Int).toNat (s.size : Int).toNat) = .string s := by
      rw [Int.toNat_natCast, Int.toNat_natCast, ← hsl.out, splice_seg _ _ _ hfit.out, strOf_str]
    rw [hseg]
    clear hseg
    go_wp2_with fail
    have HG := Lib.hid (fun (j : Nat) (hj : j < s.size) => (show (((spliceB (zbs 1024) k s.data.toList).getD (k + j) 0) = s[j]) by
      rw [List.getD_eq_getElem?_getD, splice_get _ _ _ hfit.out, if_pos (by rw [hsl.out]; omega), show k + j - k = j by omega, str_get s j hj]; rfl))
    generalize spliceB (zbs 1024) k s.data.toList = bs at *
    have OH := Lib.hid O3'
    clear O3'
    go_loop [58] (fun i => ∃ j : Nat, j ≤ s.size ∧ i = .int .i64 j) (fun i => s.size - (intOf i).toNat)
    case atStart => exact ⟨0, by omega, rfl⟩
    case round =>
      obtain ⟨j, hj, rfl⟩ := hrel
      by_cases hlt : j < s.size
      · have hG := HG.out j hlt
        have hgb : Calls Try.prog 17 #[.pointer (some ⟨p, 0, none⟩), .int .i64 ((k : Int) + (j : Int))] w3 fun e w' => e = .returned (.tuple #[.int .u8 (s[j].toNat : Int), .int .i64 0]) ∧ w3 = w' := by
          refine (getb_ok w3 OH.out.mem ((k : Int) + (j : Int)) (by omega) (by rw [hb3.out]; omega)).mono ?_
          rintro e w' ⟨rfl, rfl⟩
          have e1 : ((k : Int) + (j : Int)).toNat = k + j := by omega
          rw [e1, hG]
          exact ⟨rfl, rfl⟩
        have HGB := Lib.hid hgb
        have e8 : k + j = (k + j) / 8 * 8 + (k + j) % 8 := by omega
        have hr8 : (k + j) % 8 < 8 := by omega
        have hgc : ∃ y : Int, Calls Try.prog 14 #[.pointer (some ⟨p, 0, none⟩), .int .i64 (((k : Int) + (j : Int)) / 8 * 8)] w3 (fun e w' => e = .returned (.tuple #[.int .i64 y, .int .i64 0]) ∧ w3 = w') ∧ IntKind.u64.wrap y / 2 ^ (8 * ((k + j) % 8)) % 256 = (s[j].toNat : Int) := by
          refine ⟨_, get_ok w3 OH.out.mem _ (by omega) (by rw [hb3.out]; omega) (by omega), ?_⟩
          have e1 : (((k : Int) + (j : Int)) / 8 * 8).toNat = (k + j) / 8 * 8 := by omega
          rw [e1, u64_rd]
          have h2 := rd_byte bs ((k + j) / 8 * 8) ((k + j) % 8) hr8
          rw [← e8, hG] at h2
          have e3 : ((2 : Int) ^ (8 * ((k + j) % 8))) = ((2 ^ (8 * ((k + j) % 8)) : Nat) : Int) := by simp
          rw [e3, ← Int.natCast_ediv]
          omega
        obtain ⟨y, hgc, hy⟩ := hgc
        have HGC := Lib.hid hgc
        have hyb : (IntKind.u64.wrap y / 2 ^ (8 * ((k + j) % 8)) % 256 != (s[j].toNat : Int)) = false := by rw [hy]; simp
        clear hgb hG hgc e8 hr8 hy
        go_wp2_with (first | (go_at_call 17; refine HGB.out.mono ?_; rintro e w' ⟨rfl, rfl⟩) | (go_at_call 14; refine HGC.out.mono ?_; rintro e w' ⟨rfl, rfl⟩))
        go_round
        case rel => exact ⟨j + 1, by omega, by go_num⟩
        case measure => simp [intOf]; omega
      · obtain rfl : j = s.size := by omega
        go_wp2_with fail
        refine (own_fill OH.out k s.size cc (by omega) (by omega) (by rw [hb3.out]; omega)).mono ?_
        rintro e w5 ⟨rfl, O5⟩
        have O5' : Owns W w5 p g (fillN bs k cc s.size) 0 := O5
        clear O5
        have hb5 := Lib.hid (show (fillN bs k cc s.size).length = 1024 by rw [fillN_length, hb3.out])
        go_wp2_with fail
        refine (text_ok w5 O5'.mem k s.size (by omega) (by omega) (by rw [hb5.out]; omega)).mono ?_
        rintro e w6 ⟨rfl, rfl⟩
        obtain ⟨u, hu⟩ : ∃ u : ByteArray, strOf (seg (fillN bs k cc s.size) (k : Int).toNat (s.size : Int).toNat) = .string u := ⟨_, rfl⟩
        rw [hu]
        have hus : u.size = s.size := by rw [strOf_size hu, seg_length _ _ _ (by rw [hb5.out]; omega)]; omega
        have HU := Lib.hid (fun (i : Nat) (hi : i < u.size) => (show u[i] = cc by
          have hd := str_get u i hi
          rw [strOf_data hu, seg_get _ _ _ _ (by omega), Int.toNat_natCast, fillN_get _ _ _ _ (by rw [hb3.out]; omega), if_pos (by omega)] at hd
          injection hd with hd
          exact hd.symm))
        have HUS := Lib.hid hus
        have hus2 : u.size ≤ 200 := by omega
        clear hu hus
        go_wp2_with fail
        go_loop [122] (fun i => ∃ j : Nat, j ≤ u.size ∧ i = .int .i64 j) (fun i => u.size - (intOf i).toNat)
        case atStart => exact ⟨0, by omega, rfl⟩
        case round =>
          obtain ⟨j, hj, rfl⟩ := hrel
          by_cases hlt : j < u.size
          · have hq : ((u[j].toNat : Int) != (cc.toNat : Int)) = false := by rw [HU.out j hlt]; simp
            go_wp2
            go_round
            case rel => exact ⟨j + 1, by omega, by go_num⟩
            case measure => simp [intOf]; omega
          · have hz : ((u.size : Int) == (s.size : Int)) = true := by rw [HUS.out]; simp
            go_wp2
            go_ret
            exact ⟨rfl, O5'.below⟩
end Go.Proofs.Ytaaebgdlmhpdkaa
