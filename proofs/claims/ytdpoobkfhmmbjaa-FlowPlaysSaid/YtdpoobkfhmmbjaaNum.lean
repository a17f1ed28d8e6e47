/- Walks over rhytonref03.Text and Signed, at small numbers. -/
import Derived.Test.YtdpoobkfhmmbjaaDiv
import Derived.Laws.IdiomStrings
namespace Go.Proofs.Ytdpoobkfhmmbjaa
open Go.RowKit
def dig (r : Nat) : ByteArray := ⟨#[UInt8.ofNat (48 + r)]⟩
def txt (n : Nat) : ByteArray := if n < 10 then dig n else dig (n / 10) ++ dig (n % 10)
def Good (n m : Nat) (t : ByteArray) : Prop := (m = n ∧ t = ⟨#[]⟩) ∨ (10 ≤ n ∧ m = n / 10 ∧ t = dig (n % 10))
theorem dig_conv (w : World) (o : Obj) (r : Nat) (hr : r < 10) (c : Int) (hc : ((48 + r : Nat) : Int) = c) : (convert 53 9 (.slice (some ⟨w.heap.size + 1, 0, none⟩) 1 1)).run Try.prog ((w.alloc o).alloc (.cells #[.int .u8 c] 5)) = .ok (.string (dig r)) ((w.alloc o).alloc (.cells #[.int .u8 c] 5)) := by
  subst hc
  have hb := box2_new (S := NB) w _ o (.cells #[.int .u8 ((48 + r : Nat) : Int)] 5) (Kept.refl _ _) (fun h => h)
  refine run_convert_bytes_back (P := Try.prog) _ 53 9 5 ⟨w.heap.size + 1, 0, none⟩ 1 [UInt8.ofNat (48 + r)] Try.underlying53 Try.underlying5 Try.underlying9 (fun j hj => ?_)
  obtain rfl : j = 0 := by simp at hj; omega
  show World.cell? _ ⟨w.heap.size + 1, 0, none⟩ = _
  rw [cell_block hb]
  have : (UInt8.ofNat (48 + r)).toNat = 48 + r := by rw [UInt8.toNat_ofNat']; omega
  show some (Value.int .u8 ((48 + r : Nat) : Int)) = some (Value.int .u8 ((UInt8.ofNat (48 + r)).toNat : Int))
  rw [this]
theorem dig_nil (r : Nat) : dig r ++ ⟨#[]⟩ = dig r := ByteArray.ext (by simp [ByteArray.data_append])
theorem good_end (n m : Nat) (t : ByteArray) (hm : m < 10) (h : Good n m t) : dig (m % 10) ++ t = txt n := by
  rcases h with ⟨rfl, rfl⟩ | ⟨h1, rfl, rfl⟩
  · rw [dig_nil, txt, if_pos hm, Nat.mod_eq_of_lt hm]
  · rw [txt, if_neg (by omega), Nat.mod_eq_of_lt hm]
theorem good_next (n m : Nat) (t : ByteArray) (hn : n < 24) (hm : ¬ m < 10) (h : Good n m t) : Good n (m / 10) (dig (m % 10) ++ t) := by
  rcases h with ⟨rfl, rfl⟩ | ⟨h1, rfl, rfl⟩
  · exact .inr ⟨by omega, rfl, dig_nil _⟩
  · omega
theorem dig_size (r : Nat) : (dig r).size = 1 := rfl
theorem good_one (n m : Nat) (t : ByteArray) (h : Good n m t) (r : Nat) : (dig r).size + t.size < 3 := by
  rcases h with ⟨rfl, rfl⟩ | ⟨h1, rfl, rfl⟩ <;> simp [dig, ByteArray.size]
theorem good_size (n m : Nat) (t : ByteArray) (hn : n < 24) (hm : ¬ m < 10) (h : Good n m t) : t.size = 0 := by
  rcases h with ⟨rfl, rfl⟩ | ⟨h1, rfl, rfl⟩
  · rfl
  · omega
set_option maxRecDepth 100000 in
set_option maxHeartbeats 2000000 in
theorem text10 (n : Nat) (hn : n < 24) (w : World) : Calls Try.prog 58 #[.agg #[.int .i64 n, .int .i64 0], .int .i64 10] w fun e w' => e = .returned (.string (txt n)) ∧ Kept NB w w' := by
  have HR := Lib.hid right10
  have HX := Lib.hid (show (w.alloc (.cells #[.int .i64 n, .int .i64 0] 72)).heap[w.heap.size]? = some (.cells #[.int .i64 n, .int .i64 0] 72 (0, 0)) from (MapKept.heap_alloc w _).1)
  have HK0 := Lib.hid ((Kept.refl NB w).alloc (.cells #[.int .i64 (n : Int), .int .i64 0] 72))
  go_enter Try.func58, Try.ntmps58
  go_wp2_with (go_at_call 57; refine (HR.out _).mono ?_; rintro e w1 ⟨rfl, rfl⟩)
  go_loopw [5] (fun v wr => ∃ (m : Nat) (t : ByteArray), m < 24 ∧ v = .string t ∧ Good n m t ∧ wr.heap[w.heap.size]? = some (.cells #[.int .i64 m, .int .i64 0] 72 (0, 0)) ∧ Kept NB w wr) (fun v _ => match v with | .string s => 2 - s.size | _ => 0)
  case atStart => exact ⟨n, ⟨#[]⟩, hn, rfl, .inl ⟨rfl, rfl⟩, HX.out, HK0.out⟩
  case round =>
    obtain ⟨m, t, hm, rfl, hg, hX, hK⟩ := hrel
    have HX1 := Lib.hid hX
    have HK1 := Lib.hid hK
    have HG := Lib.hid hg
    have HS := Lib.hid (step_any m hm)
    have c0 : wr.cell? ⟨w.heap.size, 0, none⟩ = some (.int .i64 (m : Int)) := by rw [cell_block hX]; rfl
    have c1 : wr.cell? ⟨w.heap.size, 1, none⟩ = some (.int .i64 0) := by rw [cell_block hX]; rfl
    clear hX hK hg
    have hr10 : m % 10 < 10 := Nat.mod_lt _ (by decide)
    have hcat : ¬ 9223372036854775807 < (dig (m % 10)).size + t.size := by have := good_one n m t HG.out (m % 10); omega
    generalize hcc : ((48 + m % 10 : Nat) : Int) = c at HS
    by_cases h10 : m < 10
    · have e10 : m / 10 = 0 := by omega
      rw [e10] at HS
      go_wp2_with fail
      refine (HS.out _).mono ?_
      rintro e w1 ⟨rfl, K⟩
      have hcv := dig_conv w1 (.cells #[.int .i64 0, .int .i64 0] 72) (m % 10) hr10 c hcc
      have hX2 := (K.block _ (Array.getElem?_eq_some_iff.1 HX1.out).1 (fun h => h)).trans HX1.out
      have hX3 : ((w1.alloc (.cells #[.int .i64 0, .int .i64 0] 72)).alloc (.cells #[.int .u8 c] 5)).heap[w.heap.size]? = some (.cells #[.int .i64 m, .int .i64 0] 72 (0, 0)) := ((((Kept.refl NB w1).alloc (.cells #[.int .i64 0, .int .i64 0] 72)).alloc (.cells #[.int .u8 c] 5)).block _ (Array.getElem?_eq_some_iff.1 hX2).1 (fun h => h)).trans hX2
      obtain ⟨y1, y2, y3, y4⟩ := pair_store hX3 (.int .i64 0) (.int .i64 0)
      obtain ⟨_, _, _, _, _, z5, z6⟩ := box2_set hX3 (.int .i64 0) (.int .i64 0)
      have HK2 := Lib.hid ((((HK1.out.trans K).alloc (.cells #[.int .i64 0, .int .i64 0] 72)).alloc (.cells #[.int .u8 c] 5)).two (g := w.heap.size) (Nat.le_refl _) (.int .i64 0) (.int .i64 0))
      clear K hX2 hX3 c0 c1
      go_wp2_with fail
      go_ret
      exact ⟨by rw [good_end n m t h10 HG.out]; rfl, HK2.out⟩
    · obtain ⟨q, hq⟩ : ∃ q : Nat, q = m / 10 := ⟨_, rfl⟩
      have hq1 : q ≠ 0 := by omega
      have hq0 : (q : Int) ≠ 0 := by omega
      have hqb : ((q : Int) == 0) = false := by simpa using hq1
      have HQ := Lib.hid hq
      rw [← hq] at HS
      clear hq
      go_wp2_with fail
      refine (HS.out _).mono ?_
      rintro e w1 ⟨rfl, K⟩
      have hcv := dig_conv w1 (.cells #[.int .i64 q, .int .i64 0] 72) (m % 10) hr10 c hcc
      have hX2 := (K.block _ (Array.getElem?_eq_some_iff.1 HX1.out).1 (fun h => h)).trans HX1.out
      have hX3 : ((w1.alloc (.cells #[.int .i64 q, .int .i64 0] 72)).alloc (.cells #[.int .u8 c] 5)).heap[w.heap.size]? = some (.cells #[.int .i64 m, .int .i64 0] 72 (0, 0)) := ((((Kept.refl NB w1).alloc (.cells #[.int .i64 q, .int .i64 0] 72)).alloc (.cells #[.int .u8 c] 5)).block _ (Array.getElem?_eq_some_iff.1 hX2).1 (fun h => h)).trans hX2
      obtain ⟨y1, y2, y3, y4⟩ := pair_store hX3 (.int .i64 q) (.int .i64 0)
      obtain ⟨z0, _, _, _, _, z5, z6⟩ := box2_set hX3 (.int .i64 q) (.int .i64 0)
      have HZ0 := Lib.hid z0
      have HK2 := Lib.hid ((((HK1.out.trans K).alloc (.cells #[.int .i64 q, .int .i64 0] 72)).alloc (.cells #[.int .u8 c] 5)).two (g := w.heap.size) (Nat.le_refl _) (.int .i64 q) (.int .i64 0))
      clear z0 K hX2 hX3 c0 c1
      go_wp2_with fail
      go_roundw
      case rel => exact ⟨q, _, by have := HQ.out; omega, rfl, by rw [HQ.out]; exact good_next n m t hn h10 HG.out, HZ0.out, HK2.out⟩
      case measure =>
        have := good_size n m t hn h10 HG.out
        simp [ByteArray.size_append, this, dig_size]
set_option maxRecDepth 100000 in
theorem signed10 (n : Nat) (hn : n < 24) (w : World) : Calls Try.prog 29 #[.agg #[.int .i64 n, .int .i64 0], .int .i64 10] w fun e w' => e = .returned (.string (txt n)) ∧ Kept NB w w' := by
  have HT := Lib.hid (text10 n hn)
  have HK0 := Lib.hid ((Kept.refl NB w).alloc (.cells #[.int .i64 (n : Int), .int .i64 0] 72))
  go_enter Try.func29, Try.ntmps29
  go_wp2_with (go_at_call 58; refine (HT.out _).mono ?_; rintro e w1 ⟨rfl, K⟩
               have HK := Lib.hid (HK0.out.trans K)
               clear K)
  all_goals (first | go_ret | skip)
  all_goals exact ⟨rfl, HK.out⟩
end Go.Proofs.Ytdpoobkfhmmbjaa
