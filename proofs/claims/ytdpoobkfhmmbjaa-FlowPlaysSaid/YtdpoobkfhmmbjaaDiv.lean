/- Walks over rhytonref02.UDiv, Of and rhytonref03.Step, at small numbers. -/
import Derived.Test.YtdpoobkfhmmbjaaLong
import Derived.Deep.QuietTactic
import Derived.BigQuiet
namespace Go.Proofs.Ytdpoobkfhmmbjaa
open Go.RowKit
theorem long_small : ∀ n : Fin 24, (longN 10 ((n.1 : Int), 0) 128).1.1 = ((n.1 % 10 : Nat) : Int) ∧ (longN 10 ((n.1 : Int), 0) 128).2.2 = (((n.1 / 10 : Nat) : Int), 0) := by decide +kernel
theorem long10 (n : Nat) (hn : n < 24) (w : World) : Calls Try.prog 70 #[.agg #[.int .i64 n, .int .i64 0], .int .i64 10] w fun e w' => e = .returned (.tuple #[.int .i64 ((n % 10 : Nat) : Int), .agg #[.int .i64 ((n / 10 : Nat) : Int), .int .i64 0]]) ∧ Kept NB w w' := by
  have h := long_any ((n : Int), 0) 10 w
  have h2 := long_small ⟨n, hn⟩
  dsimp only at h h2
  rw [h2.1, h2.2] at h
  exact h
set_option maxRecDepth 100000 in
theorem div10 (n : Nat) (hn : n < 24) (w : World) : Calls Try.prog 68 #[.agg #[.int .i64 n, .int .i64 0], .int .i64 10] w fun e w' => e = .returned (.tuple #[.int .i64 ((n % 10 : Nat) : Int), .int .i64 ((n / 10 : Nat) : Int), .int .i64 0]) ∧ Kept NB w w' := by
  have HL := Lib.hid (long10 n hn)
  generalize ((n % 10 : Nat) : Int) = r at *
  generalize ((n / 10 : Nat) : Int) = q at *
  have HK0 := Lib.hid ((Kept.refl NB w).alloc (.cells #[.int .i64 (n : Int), .int .i64 0] 72))
  go_enter Try.func68, Try.ntmps68
  go_wp2_with fail
  refine (HL.out _).mono ?_
  rintro e w1 ⟨rfl, K⟩
  have HK := Lib.hid (HK0.out.trans K)
  clear K
  go_wp2_with fail
  have d0 : (w1.alloc (.cells #[.int .i64 q, .int .i64 0] 72)).cell? ⟨w1.heap.size, 0, none⟩ = some (.int .i64 q) := by rw [cell_block (MapKept.heap_alloc w1 _).1]; rfl
  have HK2 := Lib.hid (HK.out.alloc (.cells #[.int .i64 q, .int .i64 0] 72))
  generalize w1.alloc (.cells #[.int .i64 q, .int .i64 0] 72) = wa at *
  go_quiet (fail)
  all_goals go_wp2_with fail
  all_goals (first | go_ret3 | skip)
  all_goals exact ⟨rfl, HK2.out.drewN _⟩
theorem right10 (w : World) : Calls Try.prog 57 #[.int .i64 10] w fun e w' => e = .returned (.bool true) ∧ w = w' := by
  go_enter Try.func57, Try.ntmps57
  go_wp2
  all_goals (first | go_ret | skip)
  all_goals exact ⟨rfl, rfl⟩
set_option maxRecDepth 100000 in
theorem of_any (n : Nat) (_hn : n < 24) (w : World) : Calls Try.prog 30 #[.int .i64 n] w fun e w' => e = .returned (.agg #[.int .i64 n, .int .i64 0]) ∧ Kept NB w w' := by
  go_enter Try.func30, Try.ntmps30
  go_wp2
  all_goals go_returns
  all_goals exact ⟨rfl, (Kept.refl NB w).alloc _⟩
theorem letter (r : Nat) (h : r < 10) (hp : r < (⟨#[48, 49, 50, 51, 52, 53, 54, 55, 56, 57, 65, 66, 67, 68, 69, 70, 71, 72, 73, 74, 75, 76, 77, 78, 79, 80, 81, 82, 83, 84, 85, 86, 87, 88, 89, 90]⟩ : ByteArray).size) : (⟨#[48, 49, 50, 51, 52, 53, 54, 55, 56, 57, 65, 66, 67, 68, 69, 70, 71, 72, 73, 74, 75, 76, 77, 78, 79, 80, 81, 82, 83, 84, 85, 86, 87, 88, 89, 90]⟩ : ByteArray)[r].toNat = 48 + r := by
  match r, h with
  | 0, _ | 1, _ | 2, _ | 3, _ | 4, _ | 5, _ | 6, _ | 7, _ | 8, _ | 9, _ => rfl
  | r + 10, h => exact absurd h (by omega)
set_option maxRecDepth 100000 in
theorem step_any (n : Nat) (hn : n < 24) (w : World) : Calls Try.prog 66 #[.agg #[.int .i64 n, .int .i64 0], .int .i64 10] w fun e w' => e = .returned (.tuple #[.agg #[.int .i64 ((n / 10 : Nat) : Int), .int .i64 0], .int .u8 ((48 + n % 10 : Nat) : Int)]) ∧ Kept NB w w' := by
  have HL := Lib.hid (div10 n hn)
  have HZ := Lib.hid (div10 0 (by decide))
  have HR := Lib.hid right10
  have hr : n % 10 < 10 := Nat.mod_lt _ (by decide)
  have X0 : ((w.alloc (.cells #[.int .i64 n, .int .i64 0] 72)).alloc (.cells #[.int .i64 0, .int .i64 0] 72)).heap[w.heap.size]? = some (.cells #[.int .i64 n, .int .i64 0] 72 (0, 0)) := (Below.heap_alloc _ _ _ (by simp)).trans (MapKept.heap_alloc w _).1
  have HX := Lib.hid X0
  have HK0 := Lib.hid (((Kept.refl NB w).alloc (.cells #[.int .i64 (n : Int), .int .i64 0] 72)).alloc (.cells #[.int .i64 0, .int .i64 0] 72))
  clear X0
  generalize n % 10 = r at *
  generalize ((n / 10 : Nat) : Int) = q at *
  go_enter Try.func66, Try.ntmps66
  go_wp2_with (go_at_call 57; refine (HR.out _).mono ?_; rintro e w1 ⟨rfl, rfl⟩)
  refine (HZ.out _).mono ?_
  rintro e w1 ⟨rfl, K⟩
  have HY := Lib.hid (box2_new w w1 _ _ K (fun h => h))
  have HX1 := Lib.hid ((K.block _ (Array.getElem?_eq_some_iff.1 HX.out).1 (fun h => h)).trans HX.out)
  have HK1 := Lib.hid (HK0.out.trans K)
  have d0 : w1.cell? ⟨w.heap.size, 0, none⟩ = some (.int .i64 (n : Int)) := by rw [cell_block HX1.out]; rfl
  clear K
  go_wp2_with fail
  refine (HL.out _).mono ?_
  rintro e w2 ⟨rfl, K⟩
  have HY2 := Lib.hid ((K.block _ (Array.getElem?_eq_some_iff.1 HY.out).1 (fun h => h)).trans HY.out)
  have HK2 := Lib.hid (HK1.out.trans K)
  obtain ⟨y1, y2, y3, y4⟩ := pair_store HY2.out (.int .i64 q) (.int .i64 0)
  clear K d0
  go_wp2_with fail
  have hb1 : (0 : Int) ≤ (r : Int) := by omega
  have hb2 : (r : Int) < 36 := by omega
  have hb3 : ((r : Int)).toNat = r := by omega
  go_region
  obtain ⟨_, _, _, _, _, z5, z6⟩ := box2_set HY2.out (.int .i64 q) (.int .i64 0)
  have HK3 := Lib.hid ((HK2.out.setCell (q := ⟨w.heap.size + 1, 0, none⟩) (.inr (by simp)) (.int .i64 q)).setCell (q := ⟨w.heap.size + 1, 1, none⟩) (.inr (by simp)) (.int .i64 0)).drew
  clear y1 y2 y3 y4
  rw [letter r hr]
  go_wp2_with fail
  refine bodyPost_ret (v := .tuple #[.agg #[.int .i64 q, .int .i64 0], .int .u8 ((48 + r : Nat) : Int)]) (by simp [results, Try.results66, go_sem, z5, z6]) rfl ?_
  exact ⟨rfl, HK3.out⟩
end Go.Proofs.Ytdpoobkfhmmbjaa
