/- The walk of rhytonref10.Same, where both definitions are the same row. -/
import Derived.Test.YtdpoobkfhmmbjaaPair
import Derived.Test.YtdpoobkfhmmbjaaTake
import Derived.BigQuiet
namespace Go.Proofs.Ytdpoobkfhmmbjaa
open Go.RowKit
open Go.MapKept (heap_alloc)
set_option maxRecDepth 100000 in
set_option maxHeartbeats 4000000 in
theorem same_any (L : List I3) (dv1 dv2 : Value) (w : World) (hd1 : w.ownsRow 0 31 3 dv1 L.length (codeV L)) (hd2 : w.ownsRow 0 31 3 dv2 L.length (codeV L)) (hL : L.length ≤ 500) :
    Calls Try.prog 25 #[.agg #[dv1], .agg #[dv2]] w fun e w' => e = .returned (.bool true) ∧ Kept NB w w' := by
  obtain ⟨a1, c1, rfl, _, _, _⟩ := owns_slice hd1
  obtain ⟨a2, c2, rfl, _, _, _⟩ := owns_slice hd2
  obtain ⟨n, hn⟩ : ∃ n, n = L.length := ⟨_, rfl⟩
  rw [← hn] at hd1 hd2 hL ⊢
  obtain ⟨W1, hW1⟩ : ∃ W1, w.alloc (.cells #[.slice a1 n c1] 34) = W1 := ⟨_, rfl⟩
  obtain ⟨W2, hW2⟩ : ∃ W2, W1.alloc (.cells #[.slice a2 n c2] 34) = W2 := ⟨_, rfl⟩
  have hs1 : W1.heap.size = w.heap.size + 1 := by rw [← hW1]; simp
  have HX1 := Lib.hid (show W2.heap[w.heap.size]? = some (.cells #[.slice a1 n c1] 34 (0, 0)) by
    rw [← hW2]
    refine (Below.heap_alloc _ _ _ (by omega)).trans ?_
    rw [← hW1]; exact (heap_alloc w _).1)
  have HX2 := Lib.hid (show W2.heap[w.heap.size + 1]? = some (.cells #[.slice a2 n c2] 34 (0, 0)) by rw [← hW2, ← hs1]; exact (heap_alloc W1 _).1)
  have HK := Lib.hid (show Kept NB w W2 by rw [← hW2, ← hW1]; exact ((Kept.refl NB w).alloc _).alloc _)
  have HR1 := Lib.hid (owns_kept hd1 HK.out (fun _ _ h => h))
  have HR2 := Lib.hid (owns_kept hd2 HK.out (fun _ _ h => h))
  have HN := Lib.hid hn
  have d1 : W2.cell? ⟨w.heap.size, 0, none⟩ = some (.slice a1 n c1) := by rw [cell_block HX1.out]; rfl
  have d2 : W2.cell? ⟨w.heap.size + 1, 0, none⟩ = some (.slice a2 n c2) := by rw [cell_block HX2.out]; rfl
  clear hd1 hd2 hn hs1
  go_enter Try.func25, Try.ntmps25
  subst hW1
  go_wp2_with fail
  clear d1 d2 hW2
  go_loopw [5] (fun v wr => ∃ i : Nat, i ≤ n ∧ v = .int .i64 i ∧ Kept NB W2 wr) (fun v _ => n - (intOf v).toNat)
  case atStart => exact ⟨0, by omega, rfl, Kept.refl _ _⟩
  case round =>
    obtain ⟨i, hi, rfl, K⟩ := hrel
    have HKP := Lib.hid K
    have d1 : wr.cell? ⟨w.heap.size, 0, none⟩ = some (.slice a1 n c1) := by rw [cell_block ((K.block _ (Array.getElem?_eq_some_iff.1 HX1.out).1 (fun h => h)).trans HX1.out)]; rfl
    have d2 : wr.cell? ⟨w.heap.size + 1, 0, none⟩ = some (.slice a2 n c2) := by rw [cell_block ((K.block _ (Array.getElem?_eq_some_iff.1 HX2.out).1 (fun h => h)).trans HX2.out)]; rfl
    by_cases hlt : i < n
    · obtain ⟨x, hx⟩ : ∃ x, L[i]? = some x := ⟨_, List.getElem?_eq_getElem (by rw [← HN.out]; exact hlt)⟩
      obtain ⟨r0, r1, r2⟩ := codeV_get L i x hx
      obtain ⟨g, rfl, i0, _⟩ := owns_cell (owns_kept HR1.out K (fun _ _ h => h)) r0
      obtain ⟨g', hg', i1, _⟩ := owns_cell (owns_kept HR1.out K (fun _ _ h => h)) r1
      cases hg'
      obtain ⟨g', hg', i2, _⟩ := owns_cell (owns_kept HR1.out K (fun _ _ h => h)) r2
      cases hg'
      obtain ⟨gg, rfl, j0, _⟩ := owns_cell (owns_kept HR2.out K (fun _ _ h => h)) r0
      obtain ⟨g', hg', j1, _⟩ := owns_cell (owns_kept HR2.out K (fun _ _ h => h)) r1
      cases hg'
      obtain ⟨g', hg', j2, _⟩ := owns_cell (owns_kept HR2.out K (fun _ _ h => h)) r2
      cases hg'
      have e1 : (0 : Int) ≤ (i : Int) := by omega
      have e2 : (i : Int) < (n : Int) := by omega
      clear K hx r0 r1 r2
      obtain ⟨op, A, W⟩ := x
      dsimp only at *
      go_wp2_with fail
      go_big_quiet (fail)
      have HK5 := Lib.hid (HKP.out.drewN nq)
      go_wp2_with fail
      first
        | (refine ⟨⟨i + 1, by omega, by go_num, HK5.out⟩, ?_⟩; simp [intOf]; omega)
        | (go_roundw; case rel => exact ⟨i + 1, by omega, by go_num, HK5.out⟩; case measure => (simp [intOf]; omega))
    · obtain rfl : i = n := by omega
      clear K
      go_wp2_with fail
      all_goals (first | go_ret | skip)
      all_goals exact ⟨rfl, HK.out.trans HKP.out⟩
end Go.Proofs.Ytdpoobkfhmmbjaa
