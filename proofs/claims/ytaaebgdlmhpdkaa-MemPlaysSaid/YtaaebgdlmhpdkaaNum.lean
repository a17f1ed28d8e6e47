/- Numbers: a cell as eight bytes, the lowest one first. Plain facts. -/
import Derived.Test.YtaaebgdlmhpdkaaLib
namespace Go.Proofs.Ytaaebgdlmhpdkaa
open Go.RowKit
theorem wrap64_bmod (n : Int) : wrap64 n = n.bmod (2 ^ 64) := by
  unfold wrap64; simp only [Int.bmod]; split <;> omega
theorem wrap64_bv (n : Int) : wrap64 n = (BitVec.ofInt 64 n).toInt := by rw [wrap64_bmod, BitVec.toInt_ofInt]
theorem bits_or (x y : BitVec 64) : bits .or .i64 x.toInt y.toInt = (x ||| y).toInt := by
  have e : ∀ v : BitVec 64, BitVec.ofInt 64 v.toInt = v := fun v => by simp
  show IntKind.i64.wrap ((BitVec.ofInt 64 x.toInt ||| BitVec.ofInt 64 y.toInt).toNat : Int) = _
  rw [e, e, IntWalk.i64_left, wrap64_bmod, BitVec.toInt_eq_toNat_bmod]
/-- the first k bytes from a on, as a number -/
def rd (bs : List UInt8) (a : Nat) : Nat → Nat
  | 0 => 0
  | k + 1 => rd bs a k + (bs.getD (a + k) 0).toNat * 2 ^ (8 * k)
theorem rd_lt (bs : List UInt8) (a k : Nat) : rd bs a k < 2 ^ (8 * k) := by
  induction k with
  | zero => simp [rd]
  | succ k ih =>
    have hc := (bs.getD (a + k) 0).toNat_lt
    have e : 2 ^ (8 * (k + 1)) = 256 * 2 ^ (8 * k) := by rw [show 8 * (k + 1) = 8 * k + 8 by omega, Nat.pow_add]; omega
    rw [rd, e]
    generalize (bs.getD (a + k) 0).toNat = c at *
    generalize 2 ^ (8 * k) = m at *
    have : c * m ≤ 255 * m := Nat.mul_le_mul_right m (by omega)
    omega
theorem or_step (L c k : Nat) (hL : L < 2 ^ (8 * k)) (hc : c < 256) (hk : k < 8) : bits .or .i64 (wrap64 (L : Int)) (wrap64 ((c : Int) * 2 ^ (8 * k))) = wrap64 ((L + c * 2 ^ (8 * k) : Nat) : Int) := by
  have e2 : (c : Int) * 2 ^ (8 * k) = ((c * 2 ^ (8 * k) : Nat) : Int) := by simp
  have h8 : 2 ^ (8 * k) * 256 ≤ 2 ^ 64 := by
    rw [show (256 : Nat) = 2 ^ 8 from rfl, ← Nat.pow_add]
    exact Nat.pow_le_pow_right (by omega) (by omega)
  rw [e2, wrap64_bv, wrap64_bv, wrap64_bv, bits_or]
  congr 1
  apply BitVec.eq_of_toNat_eq
  have hcm : c * 2 ^ (8 * k) ≤ 255 * 2 ^ (8 * k) := Nat.mul_le_mul_right _ (by omega)
  have ho : L ||| c * 2 ^ (8 * k) = L + c * 2 ^ (8 * k) := by
    rw [Nat.or_comm, Nat.mul_comm, ← Nat.two_pow_add_eq_or_of_lt hL]; omega
  have t : ∀ n : Nat, n < 2 ^ 64 → (BitVec.ofInt 64 (n : Int)).toNat = n := by
    intro n hn
    rw [BitVec.ofInt_natCast, BitVec.toNat_ofNat]; omega
  rw [BitVec.toNat_or, t _ (by omega), t _ (by omega), t _ (by omega), ho]
/-- byte k of a cell -/
def byteOf (x : Int) (k : Nat) : UInt8 := UInt8.ofNat (x / 2 ^ (8 * k) % 256).toNat
theorem byteOf_val (x : Int) (k : Nat) : IntKind.u8.wrap (x / 2 ^ (8 * k)) = ((byteOf x k).toNat : Int) := by
  rw [IntKind.wrap_u8']
  unfold byteOf
  generalize x / 2 ^ (8 * k) = y
  rw [UInt8.toNat_ofNat']
  omega
/-- a cell put: the first k bytes of x from a on -/
def putN (bs : List UInt8) (a : Nat) (x : Int) : Nat → List UInt8
  | 0 => bs
  | k + 1 => (putN bs a x k).set (a + k) (byteOf x k)
theorem putN_length (bs : List UInt8) (a : Nat) (x : Int) (k : Nat) : (putN bs a x k).length = bs.length := by
  induction k with
  | zero => rfl
  | succ k ih => rw [putN, List.length_set, ih]
def fillN (bs : List UInt8) (a : Nat) (c : UInt8) : Nat → List UInt8
  | 0 => bs
  | k + 1 => (fillN bs a c k).set (a + k) c
theorem fillN_length (bs : List UInt8) (a : Nat) (c : UInt8) (k : Nat) : (fillN bs a c k).length = bs.length := by
  induction k with
  | zero => rfl
  | succ k ih => rw [fillN, List.length_set, ih]
theorem putN_get (bs : List UInt8) (a : Nat) (x : Int) (k : Nat) (h : a + k ≤ bs.length) (j : Nat) :
    (putN bs a x k)[j]? = if a ≤ j ∧ j < a + k then some (byteOf x (j - a)) else bs[j]? := by
  induction k with
  | zero => rw [if_neg (by omega)]; rfl
  | succ k ih =>
    rw [putN, List.getElem?_set, ih (by omega), putN_length]
    by_cases h1 : a + k = j
    · subst h1
      rw [if_pos rfl, if_pos (by omega), if_pos (by omega)]
      congr 2; omega
    · rw [if_neg h1]
      by_cases h2 : a ≤ j ∧ j < a + k
      · rw [if_pos h2, if_pos (by omega)]
      · rw [if_neg h2, if_neg (by omega)]
theorem fillN_get (bs : List UInt8) (a : Nat) (c : UInt8) (k : Nat) (h : a + k ≤ bs.length) (j : Nat) :
    (fillN bs a c k)[j]? = if a ≤ j ∧ j < a + k then some c else bs[j]? := by
  induction k with
  | zero => rw [if_neg (by omega)]; rfl
  | succ k ih =>
    rw [fillN, List.getElem?_set, ih (by omega), fillN_length]
    by_cases h1 : a + k = j
    · subst h1
      rw [if_pos rfl, if_pos (by omega), if_pos (by omega)]
    · rw [if_neg h1]
      by_cases h2 : a ≤ j ∧ j < a + k
      · rw [if_pos h2, if_pos (by omega)]
      · rw [if_neg h2, if_neg (by omega)]
end Go.Proofs.Ytaaebgdlmhpdkaa
