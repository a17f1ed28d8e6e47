/- The walks of the reference's Text, Write, Move. Conditions: it lies in the heap as RefIs says. -/
import Derived.Test.YtaaebgdlmhpdkaaRefPut
import Derived.StillTailTactics
namespace Go.Proofs.Ytaaebgdlmhpdkaa
open Go.RowKit
theorem rtext_conv {w : World} {p g : Nat} {bs : List UInt8} {h : Nat} (M : RefIs w p g bs h) (a n cap : Nat) (hs : a + n ≤ bs.length) :
    (convert 22 9 (.slice (some ⟨g, a, none⟩) n cap)).run Try.prog w = .ok (strOf (seg bs a n)) w := by
  have hl := seg_length bs a n hs
  have e := run_convert_bytes_back (P := Try.prog) w 22 9 5 ⟨g, a, none⟩ cap (seg bs a n) Try.underlying22 Try.underlying5 Try.underlying9 (fun j hj => by
    rw [hl] at hj
    have e : (⟨g, a, none⟩ : Addr).add j = ⟨g, a + j, none⟩ := by unfold Addr.add; split <;> simp_all
    rw [e, M.byte (a + j) (by omega)]
    have h2 := seg_get bs a n j hj
    have h3 : (seg bs a n)[j]? = some ((seg bs a n)[j]'(by rw [hl]; exact hj)) := List.getElem?_eq_getElem _
    rw [h3] at h2
    rw [List.getD_eq_getElem?_getD, ← h2]; rfl)
  rw [hl] at e
  exact e
theorem rtext_end {p g : Nat} {bs : List UInt8} {h : Nat} (w : World) (M : RefIs w p g bs h) :
    Calls Try.prog 36 #[.pointer (some ⟨p, 0, none⟩), .int .i64 (bs.length : Int), .int .i64 0] w fun e w' => e = .returned (.tuple #[strOf (seg bs 0 0), .int .i64 0]) ∧ w = w' := by
  have hP := Lib.hid (there_ok w M bs.length 0 (by omega) (by omega) (by omega))
  have c0 := M.slice_
  have hl := M.len
  have hc := rtext_conv M 0 0 0 (by omega)
  generalize strOf (seg bs 0 0) = sv at *
  clear M
  go_enter Try.func36, Try.ntmps36
  go_wp2_with (go_at_call 44; refine hP.out.mono ?_; rintro e w' ⟨rfl, rfl⟩)
  all_goals (first | (go_ret2; exact ⟨rfl, rfl⟩) | exact ⟨rfl, rfl⟩)
theorem rtext_mid {p g : Nat} {bs : List UInt8} {h : Nat} (w : World) (M : RefIs w p g bs h) (a n : Nat) (h3 : a + n ≤ bs.length) (hn : a < bs.length) :
    Calls Try.prog 36 #[.pointer (some ⟨p, 0, none⟩), .int .i64 (a : Int), .int .i64 (n : Int)] w fun e w' => e = .returned (.tuple #[strOf (seg bs a n), .int .i64 0]) ∧ w = w' := by
  have hP := Lib.hid (there_ok w M a n (by omega) (by omega) (by omega))
  have c0 := M.slice_
  have hl := M.len
  have hc := rtext_conv M a n (bs.length - a) (by omega)
  generalize strOf (seg bs a n) = sv at *
  clear M
  have hn2 : ¬ ((bs.length : Int) - (a : Int) = 0) := by omega
  have hn3 : ¬ (bs.length - a = 0) := by omega
  have h4 : (a : Int) + (n : Int) ≤ (bs.length : Int) := by omega
  go_enter Try.func36, Try.ntmps36
  go_wp2_with fail
  refine hP.out.mono ?_
  rintro e w' ⟨rfl, rfl⟩
  go_wp2_with fail
  all_goals (first | (go_ret2; exact ⟨rfl, rfl⟩) | exact ⟨rfl, rfl⟩)
theorem rtext_ok {p g : Nat} {bs : List UInt8} {h : Nat} (w : World) (M : RefIs w p g bs h) (a n : Int) (h1 : 0 ≤ a) (h2 : 0 ≤ n) (h3 : a + n ≤ bs.length) :
    Calls Try.prog 36 #[.pointer (some ⟨p, 0, none⟩), .int .i64 a, .int .i64 n] w fun e w' => e = .returned (.tuple #[strOf (seg bs a.toNat n.toNat), .int .i64 0]) ∧ w = w' := by
  obtain ⟨a, rfl⟩ := Int.eq_ofNat_of_zero_le h1
  obtain ⟨n, rfl⟩ := Int.eq_ofNat_of_zero_le h2
  by_cases hn : a < bs.length
  · exact rtext_mid w M a n (by omega) hn
  · obtain rfl : a = bs.length := by omega
    obtain rfl : n = 0 := by omega
    have e0 : seg bs ((bs.length : Int)).toNat ((0 : Nat) : Int).toNat = seg bs 0 0 := by simp [seg]
    rw [e0]
    exact rtext_end w M
theorem rtext_no {p g : Nat} {bs : List UInt8} {h : Nat} (w : World) (M : RefIs w p g bs h) (a n : Int) (h1 : ¬ (0 ≤ a ∧ a ≤ bs.length ∧ 0 ≤ n ∧ n ≤ bs.length - a)) :
    Calls Try.prog 36 #[.pointer (some ⟨p, 0, none⟩), .int .i64 a, .int .i64 n] w fun e w' => e = .returned (.tuple #[strOf [], .int .i64 (-9)]) ∧ w = w' := by
  have hP := Lib.hid (there_no w M a n h1)
  have HE := Lib.hid (show strOf [] = .string ByteArray.empty from rfl)
  rw [HE.out]
  clear M h1
  go_enter Try.func36, Try.ntmps36
  go_wp2_with (go_at_call 44; refine hP.out.mono ?_; rintro e w' ⟨rfl, rfl⟩)
  all_goals (first | (go_ret2; exact ⟨rfl, rfl⟩) | exact ⟨rfl, rfl⟩)
theorem wr_step (bs : List UInt8) (a k : Nat) (s : List UInt8) (h : a + s.length ≤ bs.length) (hk : k < s.length) :
    spliceB bs a (s.take (k + 1)) = (spliceB bs a (s.take k)).set (a + k) (s.getD k 0) := by
  have l1 : (s.take (k + 1)).length = k + 1 := by simp; omega
  have l2 : (s.take k).length = k := by simp; omega
  have l3 := spliceB_length bs a (s.take k) (by omega)
  apply List.ext_getElem?
  intro j
  rw [splice_get _ _ _ (by omega), List.getElem?_set, l3, l1]
  by_cases e : a + k = j
  · rw [if_pos (by omega), if_pos e, if_pos (by omega), List.getElem?_take, if_pos (by omega), show j - a = k by omega]
    simp [hk]
  · rw [if_neg e, splice_get _ _ _ (by omega), l2]
    by_cases e2 : a ≤ j ∧ j < a + k
    · rw [if_pos e2, if_pos (by omega), List.getElem?_take, List.getElem?_take, if_pos (by omega), if_pos (by omega)]
    · rw [if_neg e2, if_neg (by omega)]
theorem str_getD (s : ByteArray) (k : Nat) (h : k < s.size) : s.data.toList.getD k 0 = s[k] := by
  rw [List.getD_eq_getElem?_getD, str_get s k h]; rfl
def RWas (w : World) (p g : Nat) (bs : List UInt8) (h : Nat) (v : Value) (e : Ending) (w' : World) : Prop := e = .returned v ∧ RefIs w' p g bs h ∧ Kept (fun r => r = p ∨ r = g) w w'
theorem rset {w : World} {p g : Nat} {bs : List UInt8} {h : Nat} (M : RefIs w p g bs h) (j : Nat) (c : UInt8) : RefIs (w.setCell ⟨g, j, none⟩ (bV c)) p g (bs.set j c) h := by
  rw [ref_bV M]; exact M.setRow _ (by simp)
theorem rwrite_nat {p g : Nat} {bs : List UInt8} {h : Nat} (w : World) (M : RefIs w p g bs h) (a : Nat) (s : ByteArray) (h2 : a + s.size ≤ bs.length) :
    Calls Try.prog 37 #[.pointer (some ⟨p, 0, none⟩), .int .i64 (a : Int), .string s] w (RWas w p g (spliceB bs a s.data.toList) h (.int .i64 0)) := by
  have hP := Lib.hid (there_ok w M a s.size (by omega) (by omega) (by omega))
  have HM := Lib.hid M
  have hl := M.len
  have hsl := str_len s
  have HW0 := Lib.hid (fun k (hk : k < s.size) => wr_step bs a k s.data.toList (by omega) (by omega))
  have HL := Lib.hid (fun k (hk : k ≤ s.size) => spliceB_length bs a (s.data.toList.take k) (by rw [List.length_take]; omega))
  have e9 : s.data.toList = s.data.toList.take s.size := by rw [← hsl, List.take_length]
  rw [e9]
  clear M e9
  go_enter Try.func37, Try.ntmps37
  go_wp2_with (go_at_call 44; refine hP.out.mono ?_; rintro e w' ⟨rfl, rfl⟩)
  go_loopw [7] (fun i wr => ∃ k : Nat, k ≤ s.size ∧ i = .int .i64 k ∧ RefIs wr p g (spliceB bs a (s.data.toList.take k)) h ∧ Kept (fun r => r = p ∨ r = g) w wr) (fun i _ => s.size - (intOf i).toNat)
  case atStart => exact ⟨0, by omega, rfl, by rw [show spliceB bs a (s.data.toList.take 0) = bs by simp [spliceB]]; exact HM.out, Kept.refl _ _⟩
  case round =>
    obtain ⟨k, hk, rfl, M2, K2⟩ := hrel
    by_cases hlt : k < s.size
    · have hc := M2.byte (a + k) (by rw [HL.out k hk]; omega)
      have hf := M2.freeRow (a + k)
      have c0 := M2.slice_
      rw [HL.out k hk] at c0
      have HN := Lib.hid (HW0.out k hlt)
      rw [str_getD s k hlt] at HN
      have HM2 := Lib.hid M2
      have HK2 := Lib.hid K2
      clear M2 K2
      unfold bV at hc
      generalize ((spliceB bs a (s.data.toList.take k)).getD (a + k) 0).toNat = d at *
      go_wp2_with fail
      have hb1 : IntKind.i64.wrap ((a : Int) + (k : Int)) = (a : Int) + (k : Int) := IntWalk.i64_in _ (by omega)
      have hb2 : (0 : Int) ≤ (a : Int) + (k : Int) := by omega
      have hb3 : (a : Int) + (k : Int) < (bs.length : Int) := by omega
      have hb4 : ((a : Int) + (k : Int)).toNat = a + k := by omega
      go_still_tail 11, (by kernel_rfl)
      clear hb1 hb2 hb3 hb4
      change wpList _ _ _ _ _ wr.drew
      have M3 := Lib.hid (show RefIs wr.drew p g (spliceB bs a (s.data.toList.take k)) h from HM2.out.drewN 1)
      have K3 := Lib.hid (show Kept (fun r => r = p ∨ r = g) w wr.drew from HK2.out.drew)
      have hc3 : wr.drew.cell? ⟨g, a + k, none⟩ = some (.int .u8 (d : Int)) := hc
      have hf3 : wr.drew.frozen? ⟨g, a + k, none⟩ = false := hf
      generalize wr.drew = w3 at *
      go_wp2_with fail
      go_roundw
      case rel => exact ⟨k + 1, by omega, by go_num, by rw [HN.out]; exact rset M3.out _ _, K3.out.setCell (.inl (.inr rfl)) _⟩
      case measure => simp [intOf]; omega
    · have hk8 : k = s.size := by omega
      subst hk8
      have HM2 := Lib.hid M2
      have HK2 := Lib.hid K2
      clear M2 K2
      go_wp2
      go_ret
      exact ⟨rfl, HM2.out, HK2.out⟩
theorem rwrite_ok {p g : Nat} {bs : List UInt8} {h : Nat} (w : World) (M : RefIs w p g bs h) (a : Int) (s : ByteArray) (h1 : 0 ≤ a) (h2 : a + s.size ≤ bs.length) :
    Calls Try.prog 37 #[.pointer (some ⟨p, 0, none⟩), .int .i64 a, .string s] w (RWas w p g (spliceB bs a.toNat s.data.toList) h (.int .i64 0)) := by
  obtain ⟨a, rfl⟩ := Int.eq_ofNat_of_zero_le h1
  exact rwrite_nat w M a s (by omega)
theorem rwrite_no {p g : Nat} {bs : List UInt8} {h : Nat} (w : World) (M : RefIs w p g bs h) (a : Int) (s : ByteArray) (_hz : s.size ≤ 4611686018427387904) (h1 : ¬ (0 ≤ a ∧ a + s.size ≤ bs.length)) :
    Calls Try.prog 37 #[.pointer (some ⟨p, 0, none⟩), .int .i64 a, .string s] w fun e w' => e = .returned (.int .i64 (-9)) ∧ w = w' := by
  have hP := Lib.hid (there_no w M a s.size (by omega))
  clear M h1
  go_enter Try.func37, Try.ntmps37
  go_wp2_with (go_at_call 44; refine hP.out.mono ?_; rintro e w' ⟨rfl, rfl⟩)
  all_goals (first | (go_ret; exact ⟨rfl, rfl⟩) | exact ⟨rfl, rfl⟩)
end Go.Proofs.Ytaaebgdlmhpdkaa
