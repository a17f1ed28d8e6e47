/- A row of bytes that came in, as the laws read it: the text of its first bytes. -/
import Derived.Test.YtaaebgdlmhpdkaaOwn
namespace Go.Proofs.Ytaaebgdlmhpdkaa
open Go.RowKit
/-- What the frame says of a slice of integers that came in. -/
def RowIn (k : IntKind) (w : World) (a : Option Addr) (len cap : Nat) (zs : List Int) : Prop :=
  (a = none ∧ len = 0 ∧ cap = 0 ∧ zs = []) ∨
  ∃ x, a = some x ∧ len ≤ cap ∧ cap ≤ maxLen ∧ zs.length = cap ∧ (∀ i, i < zs.length → w.cell? (x.add i) = some (.int k (zs.getD i 0))) ∧ ∀ n ∈ zs, (Lit.int k n).wf = true
theorem wf_u8 {a : Int} (h : (Lit.int .u8 a).wf = true) : 0 ≤ a ∧ a ≤ 255 := by
  have hmin : IntKind.u8.min = 0 := rfl
  have hmax : IntKind.u8.max = 255 := rfl
  simp only [Lit.wf, Bool.and_eq_true, decide_eq_true_eq, hmin, hmax] at h
  exact h
theorem wf_u16 {a : Int} (h : (Lit.int .u16 a).wf = true) : 0 ≤ a ∧ a ≤ 65535 := by
  have hmin : IntKind.u16.min = 0 := rfl
  have hmax : IntKind.u16.max = 65535 := rfl
  simp only [Lit.wf, Bool.and_eq_true, decide_eq_true_eq, hmin, hmax] at h
  exact h
theorem wf_i64 {a : Int} (h : (Lit.int .i64 a).wf = true) : -9223372036854775808 ≤ a ∧ a ≤ 9223372036854775807 := by
  have hmin : IntKind.i64.min = -9223372036854775808 := rfl
  have hmax : IntKind.i64.max = 9223372036854775807 := rfl
  simp only [Lit.wf, Bool.and_eq_true, decide_eq_true_eq, hmin, hmax] at h
  exact h
def bytesIn (zs : List Int) (k : Nat) : List UInt8 := (zs.take k).map fun n => UInt8.ofNat n.toNat
theorem bytesIn_length (zs : List Int) (k : Nat) (h : k ≤ zs.length) : (bytesIn zs k).length = k := by unfold bytesIn; simp; omega
theorem cell_lt {w : World} {a : Addr} {v : Value} (h : w.cell? a = some v) : a.block < w.heap.size := by
  unfold World.cell? at h
  cases hb : w.heap[a.block]? with
  | none => rw [hb] at h; simp at h
  | some o => exact (Array.getElem?_eq_some_iff.1 hb).1
theorem row_conv {W w : World} (hB : Below W.heap.size W w) (x : Addr) (zs : List Int) (k c : Nat) (hk : k ≤ zs.length)
    (hc : ∀ i, i < zs.length → W.cell? (x.add i) = some (.int .u8 (zs.getD i 0))) (hw : ∀ n ∈ zs, (Lit.int .u8 n).wf = true) :
    (convert 22 9 (.slice (some x) k c)).run Try.prog w = .ok (.string ⟨(bytesIn zs k).toArray⟩) w := by
  have hl := bytesIn_length zs k hk
  have e := run_convert_bytes_back (P := Try.prog) w 22 9 5 x c (bytesIn zs k) Try.underlying22 Try.underlying5 Try.underlying9 (fun j hj => by
    rw [hl] at hj
    have h1 := hc j (by omega)
    rw [hB.cell (cell_lt h1), h1]
    have hz : zs[j]? = some (zs[j]'(by omega)) := List.getElem?_eq_getElem _
    have hwf := wf_u8 (hw _ (List.getElem_mem (show j < zs.length by omega)))
    have e1 : zs.getD j 0 = zs[j]'(by omega) := by rw [List.getD_eq_getElem?_getD, hz]; rfl
    have e2 : (bytesIn zs k)[j]'(by rw [hl]; exact hj) = UInt8.ofNat (zs[j]'(by omega)).toNat := by simp [bytesIn]
    rw [e1, e2]
    congr 2
    rw [UInt8.toNat_ofNat']
    omega)
  rw [hl] at e
  exact e
/-- The text of the first bytes of a row that came in. -/
theorem row_text {W w : World} (hB : Below W.heap.size W w) {a : Option Addr} {len cap : Nat} {zs : List Int} (R : RowIn .u8 W a len cap zs) (k : Nat) (hk : k ≤ len) :
    ∃ s : ByteArray, s.size = k ∧ (convert 22 9 (.slice a k cap)).run Try.prog w = .ok (.string s) w := by
  rcases R with ⟨rfl, rfl, rfl, rfl⟩ | ⟨x, rfl, hl, hm, hz, hc, hw⟩
  · obtain rfl : k = 0 := by omega
    exact ⟨ByteArray.empty, rfl, run_convert_bytes_nil (P := Try.prog) w 22 5 Try.underlying22 Try.underlying5 0 0 9 Try.underlying9⟩
  · refine ⟨⟨(bytesIn zs k).toArray⟩, ?_, row_conv hB x zs k cap (by omega) hc hw⟩
    show (bytesIn zs k).toArray.size = k
    rw [List.size_toArray, bytesIn_length zs k (by omega)]
theorem row_le {W : World} {a : Option Addr} {len cap : Nat} {k : IntKind} {zs : List Int} (R : RowIn k W a len cap zs) : len ≤ cap ∧ cap ≤ 9223372036854775807 := by
  rcases R with ⟨rfl, rfl, rfl, rfl⟩ | ⟨x, rfl, hl, hm, hz, hc, hw⟩
  · omega
  · unfold maxLen at hm; omega
end Go.Proofs.Ytaaebgdlmhpdkaa
