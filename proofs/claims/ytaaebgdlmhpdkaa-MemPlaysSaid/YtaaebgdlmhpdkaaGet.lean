/- The walks of mem.Mem's cell, Get, GetByte. Conditions: the memory lies in the heap as MemIs says. -/
import Derived.Test.YtaaebgdlmhpdkaaRead
import Derived.Test.YtaaebgdlmhpdkaaNum
namespace Go.Proofs.Ytaaebgdlmhpdkaa
open Go.RowKit
theorem cell_ok {p g : Nat} {bs : List UInt8} {h : Nat} (w : World) (M : MemIs w p g bs h) (a : Int) (h1 : 0 ≤ a) (h2 : a + 8 ≤ bs.length) (h3 : a % 8 = 0) :
    Calls Try.prog 31 #[.pointer (some ⟨p, 0, none⟩), .int .i64 a] w fun e w' => e = .returned (.tuple #[.slice (some ⟨g, a.toNat, none⟩) 8 8, .int .i64 0]) ∧ w = w' := by
  have hP := Lib.hid (piece_int w M a 8 h1 (by omega) h2)
  have h4 : (a % 8 != 0) = false := by simpa using h3
  clear h3
  go_enter Try.func31, Try.ntmps31
  go_wp2_with (go_at_call 30; refine hP.out.mono ?_; rintro e w' ⟨rfl, rfl⟩)
  all_goals (first | (go_ret2; exact ⟨rfl, rfl⟩) | exact ⟨rfl, rfl⟩)
theorem cell_un {p g : Nat} {bs : List UInt8} {h : Nat} (w : World) (M : MemIs w p g bs h) (a : Int) (h1 : 0 ≤ a) (h2 : a + 8 ≤ bs.length) (h3 : ¬ a % 8 = 0) :
    Calls Try.prog 31 #[.pointer (some ⟨p, 0, none⟩), .int .i64 a] w fun e w' => e = .returned (.tuple #[.slice none 0 0, .int .i64 (-23)]) ∧ w = w' := by
  have hP := Lib.hid (piece_int w M a 8 h1 (by omega) h2)
  have h4 : (a % 8 != 0) = true := by simpa using h3
  clear h3
  go_enter Try.func31, Try.ntmps31
  go_wp2_with (go_at_call 30; refine hP.out.mono ?_; rintro e w' ⟨rfl, rfl⟩)
  all_goals (first | (go_ret2; exact ⟨rfl, rfl⟩) | exact ⟨rfl, rfl⟩)
theorem cell_no {p g : Nat} {bs : List UInt8} {h : Nat} (w : World) (M : MemIs w p g bs h) (a : Int) (h1 : ¬ (0 ≤ a ∧ a + 8 ≤ bs.length)) :
    Calls Try.prog 31 #[.pointer (some ⟨p, 0, none⟩), .int .i64 a] w fun e w' => e = .returned (.tuple #[.slice none 0 0, .int .i64 (-9)]) ∧ w = w' := by
  have hP := Lib.hid (piece_no w M a 8 (by omega))
  clear h1
  go_enter Try.func31, Try.ntmps31
  go_wp2_with (go_at_call 30; refine hP.out.mono ?_; rintro e w' ⟨rfl, rfl⟩)
  all_goals (first | (go_ret2; exact ⟨rfl, rfl⟩) | exact ⟨rfl, rfl⟩)
theorem get_un {p g : Nat} {bs : List UInt8} {h : Nat} (w : World) (M : MemIs w p g bs h) (a : Int) (h1 : 0 ≤ a) (h2 : a + 8 ≤ bs.length) (h3 : ¬ a % 8 = 0) :
    Calls Try.prog 14 #[.pointer (some ⟨p, 0, none⟩), .int .i64 a] w fun e w' => e = .returned (.tuple #[.int .i64 0, .int .i64 (-23)]) ∧ w = w' := by
  have hP := Lib.hid (cell_un w M a h1 h2 h3)
  clear h3
  go_enter Try.func14, Try.ntmps14
  go_wp2_with (go_at_call 31; refine hP.out.mono ?_; rintro e w' ⟨rfl, rfl⟩)
  refine wp_loop_rounds 1 ?_
  rw [rounds_succ]
  go_wp2
  go_ret2
  exact ⟨rfl, rfl⟩
theorem get_no {p g : Nat} {bs : List UInt8} {h : Nat} (w : World) (M : MemIs w p g bs h) (a : Int) (h1 : ¬ (0 ≤ a ∧ a + 8 ≤ bs.length)) :
    Calls Try.prog 14 #[.pointer (some ⟨p, 0, none⟩), .int .i64 a] w fun e w' => e = .returned (.tuple #[.int .i64 0, .int .i64 (-9)]) ∧ w = w' := by
  have hP := Lib.hid (cell_no w M a h1)
  clear h1
  go_enter Try.func14, Try.ntmps14
  go_wp2_with (go_at_call 31; refine hP.out.mono ?_; rintro e w' ⟨rfl, rfl⟩)
  refine wp_loop_rounds 1 ?_
  rw [rounds_succ]
  go_wp2
  go_ret2
  exact ⟨rfl, rfl⟩
theorem val_i64 {x y : Int} (h : x = y) : Value.int .i64 x = Value.int .i64 y := by rw [h]
theorem get_nat {p g : Nat} {bs : List UInt8} {h : Nat} (w : World) (M : MemIs w p g bs h) (a : Nat) (h2 : a + 8 ≤ bs.length) (h3 : a % 8 = 0) :
    Calls Try.prog 14 #[.pointer (some ⟨p, 0, none⟩), .int .i64 (a : Int)] w fun e w' => e = .returned (.tuple #[.int .i64 (wrap64 (rd bs a 8)), .int .i64 0]) ∧ w = w' := by
  have hP := Lib.hid (cell_ok w M a (by omega) (by omega) (by omega))
  have HM := Lib.hid M
  have hl := M.len
  clear M h3
  go_enter Try.func14, Try.ntmps14
  go_wp2_with (go_at_call 31; refine hP.out.mono ?_; rintro e w' ⟨rfl, rfl⟩)
  go_loop [8, 19] (fun x i => ∃ k : Nat, k ≤ 8 ∧ i = .int .i64 k ∧ x = .int .i64 (wrap64 (rd bs a k))) (fun _ i => 8 - (intOf i).toNat)
  case atStart => exact ⟨0, by omega, rfl, val_i64 (show (0 : Int) = wrap64 ((0 : Nat) : Int) by rw [IntWalk.wrap64_in _ (by omega)]; rfl)⟩
  case round =>
    obtain ⟨k, hk, rfl, rfl⟩ := hrel
    by_cases hlt : k < 8
    · have hc := HM.out.byte (a + k) (by omega)
      unfold bV at hc
      have hb := (bs.getD (a + k) 0).toNat_lt
      have HS := Lib.hid (or_step (rd bs a k) (bs.getD (a + k) 0).toNat k (rd_lt bs a k) hb hlt)
      have HR := Lib.hid (show rd bs a (k + 1) = rd bs a k + (bs.getD (a + k) 0).toNat * 2 ^ (8 * k) from rfl)
      generalize (bs.getD (a + k) 0).toNat = c at *
      generalize rd bs a k = L at *
      go_wp2
      go_round
      case rel => exact ⟨k + 1, by omega, by go_num, val_i64 (by rw [HS.out, HR.out])⟩
      case measure => simp [intOf]; omega
    · have hk8 : k = 8 := by omega
      subst hk8
      go_wp2
      go_ret2
      exact ⟨rfl, rfl⟩
theorem get_ok {p g : Nat} {bs : List UInt8} {h : Nat} (w : World) (M : MemIs w p g bs h) (a : Int) (h1 : 0 ≤ a) (h2 : a + 8 ≤ bs.length) (h3 : a % 8 = 0) :
    Calls Try.prog 14 #[.pointer (some ⟨p, 0, none⟩), .int .i64 a] w fun e w' => e = .returned (.tuple #[.int .i64 (wrap64 (rd bs a.toNat 8)), .int .i64 0]) ∧ w = w' := by
  obtain ⟨a, rfl⟩ := Int.eq_ofNat_of_zero_le h1
  exact get_nat w M a (by omega) (by omega)
theorem getb_ok {p g : Nat} {bs : List UInt8} {h : Nat} (w : World) (M : MemIs w p g bs h) (a : Int) (h1 : 0 ≤ a) (h2 : a < bs.length) :
    Calls Try.prog 17 #[.pointer (some ⟨p, 0, none⟩), .int .i64 a] w fun e w' => e = .returned (.tuple #[bV (bs.getD a.toNat 0), .int .i64 0]) ∧ w = w' := by
  have hP := Lib.hid (piece_int w M a 1 h1 (by omega) (by omega))
  have hc := M.byte a.toNat (by omega)
  unfold bV at hc ⊢
  generalize (bs.getD a.toNat 0).toNat = c at *
  clear M
  go_enter Try.func17, Try.ntmps17
  go_wp2_with (go_at_call 30; refine hP.out.mono ?_; rintro e w' ⟨rfl, rfl⟩; simp only [pieceV, Int.toNat_one, Nat.one_ne_zero, if_false])
  all_goals (first | (go_ret2; exact ⟨rfl, rfl⟩) | exact ⟨rfl, rfl⟩)
theorem getb_no {p g : Nat} {bs : List UInt8} {h : Nat} (w : World) (M : MemIs w p g bs h) (a : Int) (h1 : ¬ (0 ≤ a ∧ a < bs.length)) :
    Calls Try.prog 17 #[.pointer (some ⟨p, 0, none⟩), .int .i64 a] w fun e w' => e = .returned (.tuple #[.int .u8 0, .int .i64 (-9)]) ∧ w = w' := by
  have hP := Lib.hid (piece_no w M a 1 (by omega))
  clear M h1
  go_enter Try.func17, Try.ntmps17
  go_wp2_with (go_at_call 30; refine hP.out.mono ?_; rintro e w' ⟨rfl, rfl⟩)
  all_goals (first | (go_ret2; exact ⟨rfl, rfl⟩) | exact ⟨rfl, rfl⟩)
theorem byteOf_mod (x : Int) (k : Nat) : x / 2 ^ (8 * k) % 256 = ((byteOf x k).toNat : Int) := by rw [← byteOf_val, IntKind.wrap_u8']
theorem put_un {p g : Nat} {bs : List UInt8} {h : Nat} (w : World) (M : MemIs w p g bs h) (a x : Int) (h1 : 0 ≤ a) (h2 : a + 8 ≤ bs.length) (h3 : ¬ a % 8 = 0) :
    Calls Try.prog 13 #[.pointer (some ⟨p, 0, none⟩), .int .i64 a, .int .i64 x] w fun e w' => e = .returned (.int .i64 (-23)) ∧ w = w' := by
  have hP := Lib.hid (cell_un w M a h1 h2 h3)
  clear h3
  go_enter Try.func13, Try.ntmps13
  go_wp2_with (go_at_call 31; refine hP.out.mono ?_; rintro e w' ⟨rfl, rfl⟩)
  refine wp_loop_rounds 1 ?_
  rw [rounds_succ]
  go_wp2
  go_ret
  exact ⟨rfl, rfl⟩
theorem put_no {p g : Nat} {bs : List UInt8} {h : Nat} (w : World) (M : MemIs w p g bs h) (a x : Int) (h1 : ¬ (0 ≤ a ∧ a + 8 ≤ bs.length)) :
    Calls Try.prog 13 #[.pointer (some ⟨p, 0, none⟩), .int .i64 a, .int .i64 x] w fun e w' => e = .returned (.int .i64 (-9)) ∧ w = w' := by
  have hP := Lib.hid (cell_no w M a h1)
  clear h1
  go_enter Try.func13, Try.ntmps13
  go_wp2_with (go_at_call 31; refine hP.out.mono ?_; rintro e w' ⟨rfl, rfl⟩)
  refine wp_loop_rounds 1 ?_
  rw [rounds_succ]
  go_wp2
  go_ret
  exact ⟨rfl, rfl⟩
theorem put_nat {p g : Nat} {bs : List UInt8} {h : Nat} (w : World) (M : MemIs w p g bs h) (a : Nat) (x : Int) (h2 : a + 8 ≤ bs.length) (h3 : a % 8 = 0) :
    Calls Try.prog 13 #[.pointer (some ⟨p, 0, none⟩), .int .i64 (a : Int), .int .i64 x] w fun e w' => e = .returned (.int .i64 0) ∧ w.setRow g ((putN bs a x 8).map bV).toArray = w' := by
  have hP := Lib.hid (cell_ok w M a (by omega) (by omega) (by omega))
  have HM := Lib.hid M
  have hl := M.len
  clear M h3
  go_enter Try.func13, Try.ntmps13
  go_wp2_with (go_at_call 31; refine hP.out.mono ?_; rintro e w' ⟨rfl, rfl⟩)
  go_loopw [18] (fun i wr => ∃ k : Nat, k ≤ 8 ∧ i = .int .i64 k ∧ wr = w.setRow g ((putN bs a x k).map bV).toArray) (fun i _ => 8 - (intOf i).toNat)
  case atStart => exact ⟨0, by omega, rfl, (setRow_self w g _ _ _ HM.out.row).symm⟩
  case round =>
    obtain ⟨k, hk, rfl, rfl⟩ := hrel
    have HM2 := Lib.hid (HM.out.setRow (putN bs a x k) (putN_length bs a x k))
    by_cases hlt : k < 8
    · have hc := HM2.out.byte (a + k) (by rw [putN_length]; omega)
      have hf := HM2.out.freeRow (a + k)
      have HB := Lib.hid (byteOf_mod x k)
      have HS := Lib.hid (setCell_bV HM2.out (a + k) (byteOf x k))
      rw [setRow_setRow] at HS
      have HN := Lib.hid (show putN bs a x (k + 1) = (putN bs a x k).set (a + k) (byteOf x k) from rfl)
      generalize hw : w.setRow g ((putN bs a x k).map bV).toArray = wr at *
      have HW := Lib.hid hw
      clear hw
      generalize ((putN bs a x k).getD (a + k) 0) = c at *
      go_wp2
      go_roundw
      case rel => exact ⟨k + 1, by omega, by go_num, by rw [HB.out, HN.out, ← HS.out]; rfl⟩
      case measure => simp [intOf]; omega
    · have hk8 : k = 8 := by omega
      subst hk8
      go_wp2
      go_ret
      exact ⟨rfl, rfl⟩
theorem put_ok {p g : Nat} {bs : List UInt8} {h : Nat} (w : World) (M : MemIs w p g bs h) (a x : Int) (h1 : 0 ≤ a) (h2 : a + 8 ≤ bs.length) (h3 : a % 8 = 0) :
    Calls Try.prog 13 #[.pointer (some ⟨p, 0, none⟩), .int .i64 a, .int .i64 x] w fun e w' => e = .returned (.int .i64 0) ∧ w.setRow g ((putN bs a.toNat x 8).map bV).toArray = w' := by
  obtain ⟨a, rfl⟩ := Int.eq_ofNat_of_zero_le h1
  exact put_nat w M a x (by omega) (by omega)
theorem fill_no {p g : Nat} {bs : List UInt8} {h : Nat} (w : World) (M : MemIs w p g bs h) (a n c : Int) (h1 : ¬ (0 ≤ a ∧ a ≤ bs.length ∧ 0 ≤ n ∧ n ≤ bs.length - a)) :
    Calls Try.prog 18 #[.pointer (some ⟨p, 0, none⟩), .int .i64 a, .int .i64 n, .int .u8 c] w fun e w' => e = .returned (.int .i64 (-9)) ∧ w = w' := by
  have hP := Lib.hid (piece_no w M a n h1)
  clear h1
  go_enter Try.func18, Try.ntmps18
  go_wp2_with (go_at_call 30; refine hP.out.mono ?_; rintro e w' ⟨rfl, rfl⟩)
  refine wp_loop_rounds 1 ?_
  rw [rounds_succ]
  go_wp2
  go_ret
  exact ⟨rfl, rfl⟩
theorem fill_nat {p g : Nat} {bs : List UInt8} {h : Nat} (w : World) (M : MemIs w p g bs h) (a n : Nat) (c : UInt8) (h2 : a + n ≤ bs.length) (hn : 0 < n) :
    Calls Try.prog 18 #[.pointer (some ⟨p, 0, none⟩), .int .i64 (a : Int), .int .i64 (n : Int), bV c] w fun e w' => e = .returned (.int .i64 0) ∧ w.setRow g ((fillN bs a c n).map bV).toArray = w' := by
  have hP := Lib.hid (piece_ok w M a n h2)
  have HV := Lib.hid (show pieceV g a n = .slice (some ⟨g, a, none⟩) n n by simp [pieceV]; omega)
  rw [HV.out] at hP
  have HM := Lib.hid M
  have hl := M.len
  clear M
  unfold bV
  have hcb := c.toNat_lt
  have HC := Lib.hid (show bV c = .int .u8 (c.toNat : Int) from rfl)
  generalize hcc : c.toNat = cc at *
  have HCC := Lib.hid hcc
  clear hcc
  go_enter Try.func18, Try.ntmps18
  go_wp2_with (go_at_call 30; refine hP.out.mono ?_; rintro e w' ⟨rfl, rfl⟩)
  go_loopw [21] (fun i wr => ∃ k : Nat, k ≤ n ∧ i = .int .i64 k ∧ wr = w.setRow g ((fillN bs a c k).map bV).toArray) (fun i _ => n - (intOf i).toNat)
  case atStart => exact ⟨0, by omega, rfl, (setRow_self w g _ _ _ HM.out.row).symm⟩
  case round =>
    obtain ⟨k, hk, rfl, rfl⟩ := hrel
    have HM2 := Lib.hid (HM.out.setRow (fillN bs a c k) (fillN_length bs a c k))
    by_cases hlt : k < n
    · have hc := HM2.out.byte (a + k) (by rw [fillN_length]; omega)
      have hf := HM2.out.freeRow (a + k)
      have HS := Lib.hid (setCell_bV HM2.out (a + k) c)
      rw [setRow_setRow] at HS
      have HN := Lib.hid (show fillN bs a c (k + 1) = (fillN bs a c k).set (a + k) c from rfl)
      generalize hw : w.setRow g ((fillN bs a c k).map bV).toArray = wr at *
      have HW := Lib.hid hw
      clear hw
      generalize ((fillN bs a c k).getD (a + k) 0) = c0 at *
      go_wp2
      go_roundw
      case rel => exact ⟨k + 1, by omega, by go_num, by rw [HN.out, ← HS.out, HC.out]⟩
      case measure => simp [intOf]; omega
    · have hk8 : k = n := by omega
      subst hk8
      go_wp2
      go_ret
      exact ⟨rfl, rfl⟩
theorem fill_zero {p g : Nat} {bs : List UInt8} {h : Nat} (w : World) (M : MemIs w p g bs h) (a : Nat) (c : Int) (h2 : a ≤ bs.length) :
    Calls Try.prog 18 #[.pointer (some ⟨p, 0, none⟩), .int .i64 (a : Int), .int .i64 0, .int .u8 c] w fun e w' => e = .returned (.int .i64 0) ∧ w = w' := by
  have hP := Lib.hid (piece_ok w M a 0 (by omega))
  go_enter Try.func18, Try.ntmps18
  go_wp2_with (go_at_call 30; refine hP.out.mono ?_; rintro e w' ⟨rfl, rfl⟩; simp only [pieceV, if_true])
  refine wp_loop_rounds 1 ?_
  rw [rounds_succ]
  go_wp2
  go_ret
  exact ⟨rfl, rfl⟩
theorem fill_ok {p g : Nat} {bs : List UInt8} {h : Nat} (w : World) (M : MemIs w p g bs h) (a n : Int) (c : UInt8) (h1 : 0 ≤ a) (h2 : 0 ≤ n) (h3 : a + n ≤ bs.length) :
    Calls Try.prog 18 #[.pointer (some ⟨p, 0, none⟩), .int .i64 a, .int .i64 n, bV c] w fun e w' => e = .returned (.int .i64 0) ∧ w.setRow g ((fillN bs a.toNat c n.toNat).map bV).toArray = w' := by
  obtain ⟨a, rfl⟩ := Int.eq_ofNat_of_zero_le h1
  obtain ⟨n, rfl⟩ := Int.eq_ofNat_of_zero_le h2
  by_cases hn : 0 < n
  · exact fill_nat w M a n c (by omega) hn
  · obtain rfl : n = 0 := by omega
    refine (fill_zero w M a c.toNat (by omega)).mono ?_
    rintro e w' ⟨rfl, rfl⟩
    exact ⟨rfl, setRow_self w g _ _ _ M.row⟩
theorem putb_ok {p g : Nat} {bs : List UInt8} {h : Nat} (w : World) (M : MemIs w p g bs h) (a : Int) (c : UInt8) (h1 : 0 ≤ a) (h2 : a < bs.length) :
    Calls Try.prog 20 #[.pointer (some ⟨p, 0, none⟩), .int .i64 a, bV c] w fun e w' => e = .returned (.int .i64 0) ∧ w.setRow g ((fillN bs a.toNat c 1).map bV).toArray = w' := by
  have hP := Lib.hid (fill_ok w M a 1 c h1 (by omega) (by omega))
  unfold bV at *
  go_enter Try.func20, Try.ntmps20
  go_wp2_with (go_at_call 18; refine hP.out.mono ?_; rintro e w' ⟨rfl, rfl⟩)
  go_ret
  exact ⟨rfl, rfl⟩
theorem putb_no {p g : Nat} {bs : List UInt8} {h : Nat} (w : World) (M : MemIs w p g bs h) (a c : Int) (h1 : ¬ (0 ≤ a ∧ a < bs.length)) :
    Calls Try.prog 20 #[.pointer (some ⟨p, 0, none⟩), .int .i64 a, .int .u8 c] w fun e w' => e = .returned (.int .i64 (-9)) ∧ w = w' := by
  have hP := Lib.hid (fill_no w M a 1 c (by omega))
  go_enter Try.func20, Try.ntmps20
  go_wp2_with (go_at_call 18; refine hP.out.mono ?_; rintro e w' ⟨rfl, rfl⟩)
  go_ret
  exact ⟨rfl, rfl⟩
end Go.Proofs.Ytaaebgdlmhpdkaa
