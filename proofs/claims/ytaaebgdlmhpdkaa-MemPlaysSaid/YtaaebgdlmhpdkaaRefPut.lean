/- The walks of the reference's Put, PutByte, Fill, Write. Conditions: it lies in the heap as RefIs says. -/
import Derived.Test.YtaaebgdlmhpdkaaRef
namespace Go.Proofs.Ytaaebgdlmhpdkaa
open Go.RowKit
def yv (x : Int) (k : Nat) : Int := IntKind.u64.wrap x / 2 ^ (8 * k)
theorem yv_zero (x : Int) : yv x 0 = IntKind.u64.wrap x := by simp [yv]
theorem yv_step (x : Int) (k : Nat) (h : k < 8) : yv x k / 256 = yv x (k + 1) ∧ 0 ≤ yv x k ∧ yv x k < 18446744073709551616 := by
  unfold yv
  rw [IntKind.wrap_u64]
  rcases (show k = 0 ∨ k = 1 ∨ k = 2 ∨ k = 3 ∨ k = 4 ∨ k = 5 ∨ k = 6 ∨ k = 7 by omega) with rfl | rfl | rfl | rfl | rfl | rfl | rfl | rfl <;> simp only [Nat.reduceMul, Nat.reduceAdd, Int.reducePow] <;> omega
theorem rput_nat {p g : Nat} {bs : List UInt8} {h : Nat} (w : World) (M : RefIs w p g bs h) (a : Nat) (x : Int) (h2 : a + 8 ≤ bs.length) (h3 : a % 8 = 0) :
    Calls Try.prog 33 #[.pointer (some ⟨p, 0, none⟩), .int .i64 (a : Int), .int .i64 x] w fun e w' => e = .returned (.int .i64 0) ∧ w.setRow g ((putN bs a x 8).map bV).toArray = w' := by
  have hP := Lib.hid (rget_nat w M a (by omega) (by omega))
  have HM := Lib.hid M
  have hl := M.len
  clear M h3
  generalize wrap64 (rd bs a 8) = rr at *
  go_enter Try.func33, Try.ntmps33
  go_wp2_with (go_at_call 32; refine hP.out.mono ?_; rintro e w' ⟨rfl, rfl⟩)
  go_loopw [9, 10] (fun y i wr => ∃ k : Nat, k ≤ 8 ∧ i = .int .i64 k ∧ y = .int .u64 (yv x k) ∧ wr = w.setRow g ((putN bs a x k).map bV).toArray) (fun _ i _ => 8 - (intOf i).toNat)
  case atStart => exact ⟨0, by omega, rfl, val_u64 (yv_zero x).symm, (setRow_self w g _ _ _ HM.out.row).symm⟩
  case round =>
    obtain ⟨k, hk, rfl, rfl, rfl⟩ := hrel
    have HM2 := Lib.hid (HM.out.setRow (putN bs a x k) (putN_length bs a x k))
    by_cases hlt : k < 8
    · have hc := HM2.out.byte (a + k) (by rw [putN_length]; omega)
      have hf := HM2.out.freeRow (a + k)
      have c0 := HM2.out.slice_
      rw [putN_length] at c0
      have HB := Lib.hid (byteOf_u64 x k hlt)
      rw [show IntKind.u64.wrap x / 2 ^ (8 * k) = yv x k from rfl] at HB
      obtain ⟨hq, hy, hy2⟩ := yv_step x k hlt
      have HQ := Lib.hid hq
      clear hq
      have HS := Lib.hid (ref_bV HM2.out (a + k) (byteOf x k))
      rw [setRow_setRow] at HS
      have HN := Lib.hid (show putN bs a x (k + 1) = (putN bs a x k).set (a + k) (byteOf x k) from rfl)
      generalize yv x k = y at *
      generalize hw : w.setRow g ((putN bs a x k).map bV).toArray = wr at *
      have HW := Lib.hid hw
      clear hw
      generalize ((putN bs a x k).getD (a + k) 0) = c at *
      go_wp2
      go_roundw
      case rel => exact ⟨k + 1, by omega, by go_num, val_u64 HQ.out, by rw [HN.out, ← HS.out]; unfold bV; rw [HB.out]⟩
      case measure => simp [intOf]; omega
    · have hk8 : k = 8 := by omega
      subst hk8
      go_wp2
      go_ret
      exact ⟨rfl, rfl⟩
theorem rput_ok {p g : Nat} {bs : List UInt8} {h : Nat} (w : World) (M : RefIs w p g bs h) (a x : Int) (h1 : 0 ≤ a) (h2 : a + 8 ≤ bs.length) (h3 : a % 8 = 0) :
    Calls Try.prog 33 #[.pointer (some ⟨p, 0, none⟩), .int .i64 a, .int .i64 x] w fun e w' => e = .returned (.int .i64 0) ∧ w.setRow g ((putN bs a.toNat x 8).map bV).toArray = w' := by
  obtain ⟨a, rfl⟩ := Int.eq_ofNat_of_zero_le h1
  exact rput_nat w M a x (by omega) (by omega)
theorem rputb_nat {p g : Nat} {bs : List UInt8} {h : Nat} (w : World) (M : RefIs w p g bs h) (a : Nat) (c : UInt8) (h2 : a < bs.length) :
    Calls Try.prog 35 #[.pointer (some ⟨p, 0, none⟩), .int .i64 (a : Int), bV c] w fun e w' => e = .returned (.int .i64 0) ∧ w.setRow g ((fillN bs a c 1).map bV).toArray = w' := by
  have hP := Lib.hid (there_ok w M a 1 (by omega) (by omega) (by omega))
  have c0 := M.slice_
  have hl := M.len
  have hf := M.freeRow a
  have hc := M.byte a h2
  have HS := Lib.hid (ref_bV M a c)
  unfold bV at hc
  generalize (bs.getD a 0).toNat = d at *
  clear M
  unfold bV at HS ⊢
  have e1 : fillN bs a c 1 = bs.set a c := rfl
  rw [e1]
  generalize ((bs.set a c).map fun c => Value.int .u8 (c.toNat : Int)).toArray = rr at *
  generalize (c.toNat : Int) = v at *
  clear e1
  go_enter Try.func35, Try.ntmps35
  go_wp2_with (go_at_call 44; refine hP.out.mono ?_; rintro e w' ⟨rfl, rfl⟩)
  all_goals (first | (go_ret; exact ⟨rfl, HS.out.symm⟩) | exact ⟨rfl, HS.out.symm⟩)
theorem rputb_ok {p g : Nat} {bs : List UInt8} {h : Nat} (w : World) (M : RefIs w p g bs h) (a : Int) (c : UInt8) (h1 : 0 ≤ a) (h2 : a < bs.length) :
    Calls Try.prog 35 #[.pointer (some ⟨p, 0, none⟩), .int .i64 a, bV c] w fun e w' => e = .returned (.int .i64 0) ∧ w.setRow g ((fillN bs a.toNat c 1).map bV).toArray = w' := by
  obtain ⟨a, rfl⟩ := Int.eq_ofNat_of_zero_le h1
  exact rputb_nat w M a c (by omega)
theorem rputb_no {p g : Nat} {bs : List UInt8} {h : Nat} (w : World) (M : RefIs w p g bs h) (a c : Int) (h1 : ¬ (0 ≤ a ∧ a < bs.length)) :
    Calls Try.prog 35 #[.pointer (some ⟨p, 0, none⟩), .int .i64 a, .int .u8 c] w fun e w' => e = .returned (.int .i64 (-9)) ∧ w = w' := by
  have hP := Lib.hid (there_no w M a 1 (by omega))
  clear M h1
  go_enter Try.func35, Try.ntmps35
  go_wp2_with (go_at_call 44; refine hP.out.mono ?_; rintro e w' ⟨rfl, rfl⟩)
  all_goals (first | (go_ret; exact ⟨rfl, rfl⟩) | exact ⟨rfl, rfl⟩)
theorem rfill_no {p g : Nat} {bs : List UInt8} {h : Nat} (w : World) (M : RefIs w p g bs h) (a n c : Int) (h1 : ¬ (0 ≤ a ∧ a ≤ bs.length ∧ 0 ≤ n ∧ n ≤ bs.length - a)) :
    Calls Try.prog 38 #[.pointer (some ⟨p, 0, none⟩), .int .i64 a, .int .i64 n, .int .u8 c] w fun e w' => e = .returned (.int .i64 (-9)) ∧ w = w' := by
  have hP := Lib.hid (there_no w M a n h1)
  clear M h1
  go_enter Try.func38, Try.ntmps38
  go_wp2_with (go_at_call 44; refine hP.out.mono ?_; rintro e w' ⟨rfl, rfl⟩)
  all_goals (first | (go_ret; exact ⟨rfl, rfl⟩) | exact ⟨rfl, rfl⟩)
theorem rfill_nat {p g : Nat} {bs : List UInt8} {h : Nat} (w : World) (M : RefIs w p g bs h) (a n : Nat) (c : UInt8) (h2 : a + n ≤ bs.length) :
    Calls Try.prog 38 #[.pointer (some ⟨p, 0, none⟩), .int .i64 (a : Int), .int .i64 (n : Int), bV c] w fun e w' => e = .returned (.int .i64 0) ∧ w.setRow g ((fillN bs a c n).map bV).toArray = w' := by
  have hP := Lib.hid (there_ok w M a n (by omega) (by omega) (by omega))
  have HM := Lib.hid M
  have hl := M.len
  clear M
  unfold bV
  go_enter Try.func38, Try.ntmps38
  go_wp2_with (go_at_call 44; refine hP.out.mono ?_; rintro e w' ⟨rfl, rfl⟩)
  go_loopw [9] (fun i wr => ∃ k : Nat, k ≤ n ∧ i = .int .i64 ((a : Int) + k) ∧ wr = w.setRow g ((fillN bs a c k).map bV).toArray) (fun i _ => (a + n) - (intOf i).toNat)
  case atStart => exact ⟨0, by omega, by simp, (setRow_self w g _ _ _ HM.out.row).symm⟩
  case round =>
    obtain ⟨k, hk, rfl, rfl⟩ := hrel
    have HM2 := Lib.hid (HM.out.setRow (fillN bs a c k) (fillN_length bs a c k))
    by_cases hlt : k < n
    · have hc := HM2.out.byte (a + k) (by rw [fillN_length]; omega)
      have hf := HM2.out.freeRow (a + k)
      have c0 := HM2.out.slice_
      rw [fillN_length] at c0
      have HS := Lib.hid (ref_bV HM2.out (a + k) c)
      rw [setRow_setRow] at HS
      have HN := Lib.hid (show fillN bs a c (k + 1) = (fillN bs a c k).set (a + k) c from rfl)
      generalize hw : w.setRow g ((fillN bs a c k).map bV).toArray = wr at *
      have HW := Lib.hid hw
      clear hw
      unfold bV at hc
      generalize ((fillN bs a c k).getD (a + k) 0).toNat = d at *
      go_wp2
      go_roundw
      case rel => exact ⟨k + 1, by omega, by go_num, by rw [HN.out, ← HS.out]; rfl⟩
      case measure => simp [intOf]; omega
    · have hk8 : k = n := by omega
      subst hk8
      go_wp2
      go_ret
      exact ⟨rfl, rfl⟩
theorem rfill_ok {p g : Nat} {bs : List UInt8} {h : Nat} (w : World) (M : RefIs w p g bs h) (a n : Int) (c : UInt8) (h1 : 0 ≤ a) (h2 : 0 ≤ n) (h3 : a + n ≤ bs.length) :
    Calls Try.prog 38 #[.pointer (some ⟨p, 0, none⟩), .int .i64 a, .int .i64 n, bV c] w fun e w' => e = .returned (.int .i64 0) ∧ w.setRow g ((fillN bs a.toNat c n.toNat).map bV).toArray = w' := by
  obtain ⟨a, rfl⟩ := Int.eq_ofNat_of_zero_le h1
  obtain ⟨n, rfl⟩ := Int.eq_ofNat_of_zero_le h2
  exact rfill_nat w M a n c (by omega)
end Go.Proofs.Ytaaebgdlmhpdkaa
