/- Plain facts that the laws over memories want: a cell that was put is read again; a text that was written lies there. -/
import Derived.Test.YtaaebgdlmhpdkaaIn
namespace Go.Proofs.Ytaaebgdlmhpdkaa
open Go.RowKit
theorem putN_at (bs : List UInt8) (a : Nat) (x : Int) (h : a + 8 ≤ bs.length) (i : Nat) (hi : i < 8) : (putN bs a x 8).getD (a + i) 0 = byteOf x i := by
  rw [List.getD_eq_getElem?_getD, putN_get _ _ _ _ h, if_pos (by omega)]
  show byteOf x (a + i - a) = _
  congr 1; omega
theorem rd_put (bs : List UInt8) (a : Nat) (x : Int) (h : a + 8 ≤ bs.length) (hx : -9223372036854775808 ≤ x ∧ x ≤ 9223372036854775807) : wrap64 ((rd (putN bs a x 8) a 8 : Nat) : Int) = x := by
  have b : ∀ i, i < 8 → (((putN bs a x 8).getD (a + i) 0).toNat : Int) = x / 2 ^ (8 * i) % 256 := fun i hi => by
    rw [putN_at bs a x h i hi, ← byteOf_val, IntKind.wrap_u8']
  have b0 := b 0 (by omega)
  have b1 := b 1 (by omega)
  have b2 := b 2 (by omega)
  have b3 := b 3 (by omega)
  have b4 := b 4 (by omega)
  have b5 := b 5 (by omega)
  have b6 := b 6 (by omega)
  have b7 := b 7 (by omega)
  simp only [rd]
  simp only [Nat.reduceMul, Nat.mul_zero, Int.reducePow, Nat.reducePow] at *
  generalize ((putN bs a x 8).getD (a + 0) 0).toNat = c0 at *
  generalize ((putN bs a x 8).getD (a + 1) 0).toNat = c1 at *
  generalize ((putN bs a x 8).getD (a + 2) 0).toNat = c2 at *
  generalize ((putN bs a x 8).getD (a + 3) 0).toNat = c3 at *
  generalize ((putN bs a x 8).getD (a + 4) 0).toNat = c4 at *
  generalize ((putN bs a x 8).getD (a + 5) 0).toNat = c5 at *
  generalize ((putN bs a x 8).getD (a + 6) 0).toNat = c6 at *
  generalize ((putN bs a x 8).getD (a + 7) 0).toNat = c7 at *
  unfold wrap64
  omega
theorem byteOf_u64 (x : Int) (n : Nat) (h : n < 8) : ((byteOf x n).toNat : Int) = IntKind.u64.wrap x / 2 ^ (8 * n) % 256 := by
  rw [← byteOf_val, IntKind.wrap_u8', IntKind.wrap_u64]
  rcases (show n = 0 ∨ n = 1 ∨ n = 2 ∨ n = 3 ∨ n = 4 ∨ n = 5 ∨ n = 6 ∨ n = 7 by omega) with rfl | rfl | rfl | rfl | rfl | rfl | rfl | rfl <;> simp only [Nat.reduceMul, Int.reducePow] <;> omega
theorem splice_get (bs : List UInt8) (a : Nat) (s : List UInt8) (h : a + s.length ≤ bs.length) (j : Nat) :
    (spliceB bs a s)[j]? = if a ≤ j ∧ j < a + s.length then s[j - a]? else bs[j]? := by
  unfold spliceB
  have hm : min a bs.length = a := by omega
  by_cases h1 : j < a
  · rw [if_neg (by omega), List.append_assoc, List.getElem?_append_left (by rw [List.length_take]; omega), List.getElem?_take, if_pos h1]
  · by_cases h2 : j < a + s.length
    · rw [if_pos ⟨by omega, h2⟩, List.getElem?_append_left (by simp only [List.length_append, List.length_take]; omega), List.getElem?_append_right (by rw [List.length_take]; omega), List.length_take, hm]
    · rw [if_neg (by omega), List.getElem?_append_right (by simp only [List.length_append, List.length_take]; omega), List.length_append, List.length_take, hm, List.getElem?_drop]
      congr 1; omega
theorem zbs_get (n j : Nat) (h : j < n) : (zbs n)[j]? = some 0 := by
  unfold zbs; rw [List.getElem?_replicate, if_pos h]
theorem str_get (t : ByteArray) (j : Nat) (h : j < t.size) : t.data.toList[j]? = some t[j] := by
  rw [List.getElem?_eq_getElem (by rw [str_len]; exact h)]; rfl
theorem strOf_data {l : List UInt8} {t : ByteArray} (h : strOf l = .string t) : t.data.toList = l := by
  unfold strOf at h; injection h with h; rw [← h]
theorem strOf_size {l : List UInt8} {t : ByteArray} (h : strOf l = .string t) : t.size = l.length := by rw [← str_len, strOf_data h]
theorem keeps_byte (s t : ByteArray) (k : Nat) (x : Int) (hs : s.size ≤ 1024) (hk : k + 8 ≤ 1024) (ht : strOf (putN (spliceB (zbs 1024) 0 s.data.toList) k x 8) = .string t) (j : Nat) (hj : j < 1024) (hjt : j < t.size) :
    (k ≤ j → j < k + 8 → (t[j].toNat : Int) = IntKind.u64.wrap x / 2 ^ (8 * (j - k)) % 256) ∧ (¬ (k ≤ j ∧ j < k + 8) → (∀ h : j < s.size, t[j] = s[j]) ∧ (¬ j < s.size → t[j] = 0)) := by
  have hd := str_get t j hjt
  have hsl := str_len s
  have hl : (spliceB (zbs 1024) 0 s.data.toList).length = 1024 := by rw [spliceB_length _ _ _ (by rw [zbs_length, hsl]; omega), zbs_length]
  rw [strOf_data ht, putN_get _ _ _ _ (by rw [hl]; omega)] at hd
  constructor
  · intro h1 h2
    rw [if_pos ⟨h1, h2⟩] at hd
    injection hd with hd
    rw [← hd]
    exact byteOf_u64 x (j - k) (by omega)
  · intro h1
    rw [if_neg h1, splice_get _ _ _ (by rw [zbs_length, hsl]; omega)] at hd
    constructor
    · intro h2
      rw [if_pos ⟨by omega, by rw [hsl]; omega⟩, Nat.sub_zero, str_get s j h2] at hd
      injection hd with hd
      exact hd.symm
    · intro h2
      rw [if_neg (by rw [hsl]; omega), zbs_get _ _ hj] at hd
      injection hd with hd
      exact hd.symm
end Go.Proofs.Ytaaebgdlmhpdkaa
