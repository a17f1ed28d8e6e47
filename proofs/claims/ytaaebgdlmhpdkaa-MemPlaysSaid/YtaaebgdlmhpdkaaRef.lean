/- What the reference's memory (rhytonref05.Mem) is in the model's heap, and the walks of its readers: there, Get, GetByte, Text. Conditions: it lies in the heap as RefIs says. -/
import Derived.Test.YtaaebgdlmhpdkaaAllot
import Derived.Test.YtaaebgdlmhpdkaaFacts
namespace Go.Proofs.Ytaaebgdlmhpdkaa
open Go.RowKit
structure RefIs (w : World) (p g : Nat) (bs : List UInt8) (h : Nat) : Prop where
  own : w.heap[p]? = some (.cells #[.slice (some ⟨g, 0, none⟩) bs.length bs.length, .int .i64 (h : Int)] 66 (0, 0))
  row : w.heap[g]? = some (.cells (bs.map bV).toArray 5 (0, 0))
  ne : p ≠ g
  len : bs.length ≤ 65536
section
variable {w w' : World} {S : Nat → Prop} {p g : Nat} {bs : List UInt8} {h : Nat}
theorem RefIs.lt (M : RefIs w p g bs h) : p < w.heap.size ∧ g < w.heap.size := ⟨(Array.getElem?_eq_some_iff.1 M.own).1, (Array.getElem?_eq_some_iff.1 M.row).1⟩
theorem RefIs.kept (M : RefIs w p g bs h) (k : Kept S w w') (hp : ¬ S p) (hg : ¬ S g) : RefIs w' p g bs h :=
  ⟨(k.block p M.lt.1 hp).trans M.own, (k.block g M.lt.2 hg).trans M.row, M.ne, M.len⟩
theorem RefIs.slice_ (M : RefIs w p g bs h) : w.cell? ⟨p, 0, none⟩ = some (.slice (some ⟨g, 0, none⟩) bs.length bs.length) := by rw [cell_block M.own]; rfl
theorem RefIs.here_ (M : RefIs w p g bs h) : w.cell? ⟨p, 1, none⟩ = some (.int .i64 (h : Int)) := by rw [cell_block M.own]; rfl
theorem RefIs.free_ (M : RefIs w p g bs h) (j : Nat) : w.frozen? ⟨p, j, none⟩ = false := frozen_block M.own j
theorem RefIs.freeRow (M : RefIs w p g bs h) (j : Nat) : w.frozen? ⟨g, j, none⟩ = false := frozen_block M.row j
theorem RefIs.byte (M : RefIs w p g bs h) (j : Nat) (hj : j < bs.length) : w.cell? ⟨g, j, none⟩ = some (bV (bs.getD j 0)) := by
  rw [cell_block M.row]
  simp [hj]
theorem RefIs.setRow (M : RefIs w p g bs h) (cs : List UInt8) (hl : cs.length = bs.length) : RefIs (w.setRow g (cs.map bV).toArray) p g cs h :=
  ⟨by rw [setRow_other w g p _ M.ne, M.own, hl], setRow_heap w g _ _ _ _ M.row, M.ne, by rw [hl]; exact M.len⟩
theorem ref_bV (M : RefIs w p g bs h) (j : Nat) (c : UInt8) : w.setCell ⟨g, j, none⟩ (bV c) = w.setRow g ((bs.set j c).map bV).toArray := by
  rw [setCell_eq_setRow w g j _ _ _ _ M.row]
  congr 1
  simp [List.map_set]
theorem RefIs.setHere (M : RefIs w p g bs h) (k : Nat) : RefIs (w.setCell ⟨p, 1, none⟩ (.int .i64 (k : Int))) p g bs k := by
  rw [setCell_eq_setRow w p 1 _ _ _ _ M.own]
  exact ⟨by rw [setRow_heap w p _ _ _ _ M.own]; rfl, by rw [setRow_other w p g _ M.ne.symm]; exact M.row, M.ne, M.len⟩
theorem RefIs.drewN (M : RefIs w p g bs h) (n : Nat) : RefIs (w.drewN n) p g bs h := ⟨M.own, M.row, M.ne, M.len⟩
end
theorem there_ok {p g : Nat} {bs : List UInt8} {h : Nat} (w : World) (M : RefIs w p g bs h) (a n : Int) (h1 : 0 ≤ a) (h2 : 0 ≤ n) (h3 : a + n ≤ bs.length) :
    Calls Try.prog 44 #[.pointer (some ⟨p, 0, none⟩), .int .i64 a, .int .i64 n] w fun e w' => e = .returned (.bool true) ∧ w = w' := by
  have c0 := M.slice_
  have hl := M.len
  clear M
  have h4 : a ≤ (bs.length : Int) := by omega
  have h5 : n ≤ (bs.length : Int) - a := by omega
  go_enter Try.func44, Try.ntmps44
  go_wp2
  all_goals (first | (go_ret; exact ⟨rfl, rfl⟩) | exact ⟨rfl, rfl⟩)
theorem there_no {p g : Nat} {bs : List UInt8} {h : Nat} (w : World) (M : RefIs w p g bs h) (a n : Int) (hak : ¬ (0 ≤ a ∧ a ≤ bs.length ∧ 0 ≤ n ∧ n ≤ bs.length - a)) :
    Calls Try.prog 44 #[.pointer (some ⟨p, 0, none⟩), .int .i64 a, .int .i64 n] w fun e w' => e = .returned (.bool false) ∧ w = w' := by
  have c0 := M.slice_
  have hl := M.len
  clear M
  rcases (show a < 0 ∨ (0 ≤ a ∧ (bs.length : Int) < a) ∨ (0 ≤ a ∧ a ≤ (bs.length : Int) ∧ n < 0) ∨ (0 ≤ a ∧ a ≤ (bs.length : Int) ∧ 0 ≤ n ∧ (bs.length : Int) - a < n) by omega) with h1 | ⟨h1, h2⟩ | ⟨h1, h2, h3⟩ | ⟨h1, h2, h3, h4⟩
  all_goals
    clear hak
    go_enter Try.func44, Try.ntmps44
    go_wp2
    all_goals (first | (go_ret; exact ⟨rfl, rfl⟩) | exact ⟨rfl, rfl⟩ | (go_ret; refine ⟨?_, rfl⟩; simp; omega))
/-- The bytes of a cell, from the last one on. -/
def hor (bs : List UInt8) (a : Nat) : Nat → Nat
  | 0 => 0
  | k + 1 => hor bs a k * 256 + (bs.getD (a + (7 - k)) 0).toNat
theorem hor_lt (bs : List UInt8) (a k : Nat) : hor bs a k < 256 ^ k := by
  induction k with
  | zero => simp [hor]
  | succ k ih =>
    have := (bs.getD (a + (7 - k)) 0).toNat_lt
    rw [hor, Nat.pow_succ]
    omega
theorem hor_rd (bs : List UInt8) (a : Nat) : hor bs a 8 = rd bs a 8 := by
  simp only [hor, rd, Nat.reduceSub, Nat.reduceMul, Nat.reducePow, Nat.add_zero]
  omega
theorem rget_un {p g : Nat} {bs : List UInt8} {h : Nat} (w : World) (M : RefIs w p g bs h) (a : Int) (h1 : 0 ≤ a) (h2 : a + 8 ≤ bs.length) (h3 : ¬ a % 8 = 0) :
    Calls Try.prog 32 #[.pointer (some ⟨p, 0, none⟩), .int .i64 a] w fun e w' => e = .returned (.tuple #[.int .i64 0, .int .i64 (-23)]) ∧ w = w' := by
  have hP := Lib.hid (there_ok w M a 8 h1 (by omega) h2)
  have h4 : (a % 8 != 0) = true := by simpa using h3
  clear h3 M
  go_enter Try.func32, Try.ntmps32
  go_wp2_with (go_at_call 44; refine hP.out.mono ?_; rintro e w' ⟨rfl, rfl⟩)
  all_goals (first | (go_ret2; exact ⟨rfl, rfl⟩) | exact ⟨rfl, rfl⟩)
theorem rget_no {p g : Nat} {bs : List UInt8} {h : Nat} (w : World) (M : RefIs w p g bs h) (a : Int) (h1 : ¬ (0 ≤ a ∧ a + 8 ≤ bs.length)) :
    Calls Try.prog 32 #[.pointer (some ⟨p, 0, none⟩), .int .i64 a] w fun e w' => e = .returned (.tuple #[.int .i64 0, .int .i64 (-9)]) ∧ w = w' := by
  have hP := Lib.hid (there_no w M a 8 (by omega))
  clear h1 M
  go_enter Try.func32, Try.ntmps32
  go_wp2_with (go_at_call 44; refine hP.out.mono ?_; rintro e w' ⟨rfl, rfl⟩)
  all_goals (first | (go_ret2; exact ⟨rfl, rfl⟩) | exact ⟨rfl, rfl⟩)
theorem val_u64 {x y : Int} (h : x = y) : Value.int .u64 x = Value.int .u64 y := by rw [h]
theorem rget_nat {p g : Nat} {bs : List UInt8} {h : Nat} (w : World) (M : RefIs w p g bs h) (a : Nat) (h2 : a + 8 ≤ bs.length) (h3 : a % 8 = 0) :
    Calls Try.prog 32 #[.pointer (some ⟨p, 0, none⟩), .int .i64 (a : Int)] w fun e w' => e = .returned (.tuple #[.int .i64 (wrap64 (rd bs a 8)), .int .i64 0]) ∧ w = w' := by
  have hP := Lib.hid (there_ok w M a 8 (by omega) (by omega) (by omega))
  have HM := Lib.hid M
  have c0 := M.slice_
  have hl := M.len
  have h4 : ((a : Int) % 8 != 0) = false := by simp; omega
  clear M h3
  go_enter Try.func32, Try.ntmps32
  go_wp2_with (go_at_call 44; refine hP.out.mono ?_; rintro e w' ⟨rfl, rfl⟩)

  go_loop [6, 7] (fun x i => ∃ k : Nat, k ≤ 8 ∧ i = .int .i64 (7 - (k : Int)) ∧ x = .int .u64 (hor bs a k : Nat)) (fun _ i => (intOf i + 1).toNat)
  case atStart => exact ⟨0, by omega, rfl, rfl⟩
  case round =>
    obtain ⟨k, hk, rfl, rfl⟩ := hrel
    by_cases hlt : k < 8
    · have hc := HM.out.byte (a + (7 - k)) (by omega)
      unfold bV at hc
      have hb := (bs.getD (a + (7 - k)) 0).toNat_lt
      have HL := hor_lt bs a (k + 1)
      have HR := show hor bs a (k + 1) = hor bs a k * 256 + (bs.getD (a + (7 - k)) 0).toNat from rfl
      have h8 : (256 : Nat) ^ (k + 1) ≤ 256 ^ 8 := Nat.pow_le_pow_right (by omega) (by omega)
      have h9 : (256 : Nat) ^ 8 = 18446744073709551616 := by decide
      rw [h9] at h8
      have hL : hor bs a k * 256 + (bs.getD (a + (7 - k)) 0).toNat < 18446744073709551616 := by omega
      have HR' := Lib.hid HR
      clear HL HR h8 h9
      generalize (bs.getD (a + (7 - k)) 0).toNat = c at *
      generalize hor bs a k = L at *
      go_wp2
      go_round
      case rel => exact ⟨k + 1, by omega, by go_num, val_u64 (by rw [HR'.out]; omega)⟩
      case measure => simp [intOf]; omega
    · have hk8 : k = 8 := by omega
      subst hk8
      have HE := Lib.hid (hor_rd bs a)
      go_wp2
      go_ret2
      exact ⟨by rw [HE.out]; rfl, rfl⟩
theorem rget_ok {p g : Nat} {bs : List UInt8} {h : Nat} (w : World) (M : RefIs w p g bs h) (a : Int) (h1 : 0 ≤ a) (h2 : a + 8 ≤ bs.length) (h3 : a % 8 = 0) :
    Calls Try.prog 32 #[.pointer (some ⟨p, 0, none⟩), .int .i64 a] w fun e w' => e = .returned (.tuple #[.int .i64 (wrap64 (rd bs a.toNat 8)), .int .i64 0]) ∧ w = w' := by
  obtain ⟨a, rfl⟩ := Int.eq_ofNat_of_zero_le h1
  exact rget_nat w M a (by omega) (by omega)
theorem rgetb_ok {p g : Nat} {bs : List UInt8} {h : Nat} (w : World) (M : RefIs w p g bs h) (a : Int) (h1 : 0 ≤ a) (h2 : a < bs.length) :
    Calls Try.prog 34 #[.pointer (some ⟨p, 0, none⟩), .int .i64 a] w fun e w' => e = .returned (.tuple #[bV (bs.getD a.toNat 0), .int .i64 0]) ∧ w = w' := by
  have hP := Lib.hid (there_ok w M a 1 h1 (by omega) (by omega))
  have c0 := M.slice_
  have hl := M.len
  have hc := M.byte a.toNat (by omega)
  unfold bV at hc ⊢
  generalize (bs.getD a.toNat 0).toNat = c at *
  clear M
  go_enter Try.func34, Try.ntmps34
  go_wp2_with (go_at_call 44; refine hP.out.mono ?_; rintro e w' ⟨rfl, rfl⟩)
  all_goals (first | (go_ret2; exact ⟨rfl, rfl⟩) | exact ⟨rfl, rfl⟩)
theorem rgetb_no {p g : Nat} {bs : List UInt8} {h : Nat} (w : World) (M : RefIs w p g bs h) (a : Int) (h1 : ¬ (0 ≤ a ∧ a < bs.length)) :
    Calls Try.prog 34 #[.pointer (some ⟨p, 0, none⟩), .int .i64 a] w fun e w' => e = .returned (.tuple #[.int .u8 0, .int .i64 (-9)]) ∧ w = w' := by
  have hP := Lib.hid (there_no w M a 1 (by omega))
  clear M h1
  go_enter Try.func34, Try.ntmps34
  go_wp2_with (go_at_call 44; refine hP.out.mono ?_; rintro e w' ⟨rfl, rfl⟩)
  all_goals (first | (go_ret2; exact ⟨rfl, rfl⟩) | exact ⟨rfl, rfl⟩)
theorem rput_un {p g : Nat} {bs : List UInt8} {h : Nat} (w : World) (M : RefIs w p g bs h) (a x : Int) (h1 : 0 ≤ a) (h2 : a + 8 ≤ bs.length) (h3 : ¬ a % 8 = 0) :
    Calls Try.prog 33 #[.pointer (some ⟨p, 0, none⟩), .int .i64 a, .int .i64 x] w fun e w' => e = .returned (.int .i64 (-23)) ∧ w = w' := by
  have hP := Lib.hid (rget_un w M a h1 h2 h3)
  clear h3 M
  go_enter Try.func33, Try.ntmps33
  go_wp2_with (go_at_call 32; refine hP.out.mono ?_; rintro e w' ⟨rfl, rfl⟩)
  all_goals (first | (go_ret; exact ⟨rfl, rfl⟩) | exact ⟨rfl, rfl⟩)
theorem rput_no {p g : Nat} {bs : List UInt8} {h : Nat} (w : World) (M : RefIs w p g bs h) (a x : Int) (h1 : ¬ (0 ≤ a ∧ a + 8 ≤ bs.length)) :
    Calls Try.prog 33 #[.pointer (some ⟨p, 0, none⟩), .int .i64 a, .int .i64 x] w fun e w' => e = .returned (.int .i64 (-9)) ∧ w = w' := by
  have hP := Lib.hid (rget_no w M a h1)
  clear h1 M
  go_enter Try.func33, Try.ntmps33
  go_wp2_with (go_at_call 32; refine hP.out.mono ?_; rintro e w' ⟨rfl, rfl⟩)
  all_goals (first | (go_ret; exact ⟨rfl, rfl⟩) | exact ⟨rfl, rfl⟩)
end Go.Proofs.Ytaaebgdlmhpdkaa
