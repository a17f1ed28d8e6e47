/- The walk of the reference's closes. -/
import Derived.Test.YtdpoobkfhmmbjaaRefLib
import Derived.Test.YtdpoobkfhmmbjaaClose
namespace Go.Proofs.Ytdpoobkfhmmbjaa
open Go.RowKit
open Go.MapKept (heap_alloc)
set_option maxRecDepth 100000 in
set_option maxHeartbeats 4000000 in
theorem rcloses_any {F : Nat → Prop} {w : World} {p : Nat} {vc vp : Value} {code : List I3} {ps : List (Prt × Value)} (B : RBld F w p vc vp code ps) (hF : ∀ r, w.heap.size ≤ r → F r) (gs : List Int) (gv : Value) (_hn : code.length < 600)
    (hq : w.ownsRow 0 3 1 gv gs.length (gs.map intV)) (hg : ∀ g ∈ gs, 0 ≤ g ∧ g < code.length) :
    Calls Try.prog 38 #[.pointer (some ⟨p, 0, none⟩), gv] w fun e w' => e = .returned (.tuple #[]) ∧ (∃ vc', RBld F w' p vc' vp (closeG code gs) ps) ∧ Kept (fun r => r = p) w w' := by
  obtain ⟨qa, qc, hqv, hq1, hq2, hq3⟩ := owns_slice hq
  subst hqv
  have hgn : gs.length ≤ maxLen := by omega
  simp only [maxLen] at hgn
  obtain ⟨a, c, hv, h1, h2, _⟩ := owns_slice B.b.code
  subst hv
  have HW := Lib.hid (show Kept NB w (w.alloc (.cells #[] 31)) from (Kept.refl _ w).alloc _)
  have c1 : (w.alloc (.cells #[] 31)).cell? ⟨p, 0, none⟩ = some (.slice a code.length c) := by rw [cell_block (B.young HW.out).b.own]; rfl
  have HB := Lib.hid B
  have HQ := Lib.hid hq
  have HG := Lib.hid hg
  have HF := Lib.hid hF
  have H63 := Lib.hid (show code.length ≤ maxLen by simp only [maxLen]; omega)
  have HBy := Lib.hid (show code.length * 24 ≤ 140737488355328 by omega)
  clear B hq hg hq3 hF
  obtain ⟨i0, hi0, hz0, hz1, hz2⟩ := info_parts info31
  go_enter Try.func38, Try.ntmps38
  go_wp2_with (first
    | (at_builtin
       refine wpList_append_fresh _ rfl _ _ _ rfl 31 i0 _ 3 24 Try.underlying32 hi0 hz0 hz1 hz2 rfl (by omega) w.heap.size rfl (heap_alloc w _).1 _ _ (codeV code) rfl (HB.out.young HW.out).b.code (codeV_one code) H63.out HBy.out ?_
       intro a1 c1' w1 own1 kept1 at1
       have HK1 := Lib.hid (show Kept NB w w1 from Kept.young HW.out kept1 (by rintro r rfl; exact Nat.le_refl _))
       have HA1 := Lib.hid (show ∀ k, (Value.slice a1 code.length c1').ownBlock = some k → w.heap.size ≤ k from fun k hk => by
         rcases at1 k hk with h | h
         · omega
         · simp at h; omega)
       have HO1 := Lib.hid own1
       clear own1 kept1 at1))
  go_loopw [5] (fun i wr => ∃ k : Nat, k ≤ gs.length ∧ i = .int .i64 k ∧ Kept NB w wr ∧ wr.ownsRow 0 31 3 (.slice a1 code.length c1') code.length (codeV (closeG code (gs.take k)))) (fun i _ => gs.length - (intOf i).toNat)
  case atStart => exact ⟨0, by omega, rfl, HK1.out, HO1.out⟩
  case round =>
    obtain ⟨k, hk, rfl, K2, O2⟩ := hrel
    by_cases hlt : k < gs.length
    · obtain ⟨g, hgk⟩ : ∃ g, gs[k]? = some g := ⟨_, List.getElem?_eq_getElem hlt⟩
      have hgb := HG.out g (List.mem_of_getElem? hgk)
      obtain ⟨qb, rfl, hc, _⟩ := owns_cell (owns_kept HQ.out K2 (fun _ _ h => h)) (j := k) (u := .int .i64 g) (by rw [List.getElem?_map, hgk]; rfl)
      have HN := Lib.hid (closeG_step code gs k g hgk)
      have hl := closeG_length code (gs.take k)
      obtain ⟨n, rfl⟩ := Int.eq_ofNat_of_zero_le hgb.1
      rw [Int.toNat_natCast] at HN
      have hnl : n < (closeG code (gs.take k)).length := by omega
      obtain ⟨y, hy⟩ : ∃ y, (closeG code (gs.take k))[n]? = some y := ⟨_, List.getElem?_eq_getElem hnl⟩
      obtain ⟨cb, rfl, hcy, hfy⟩ := owns_cell O2 (codeV_get _ n y hy).2.1
      have hb2 : (0 : Int) ≤ (n : Int) := by omega
      have hb3 : (n : Int) < (code.length : Int) := by omega
      have hcb := HA1.out cb rfl
      have HO3 := Lib.hid (show (wr.setCell ⟨cb, n * 3 + 1, none⟩ (.int .i64 (code.length : Int))).ownsRow 0 31 3 (.slice (some ⟨cb, 0, none⟩) code.length c1') code.length (codeV (closeG code (gs.take (k + 1)))) by
        have := owns_set O2 (g := cb) rfl (n * 3 + 1) (.int .i64 (code.length : Int))
        rw [codeV_setA _ _ _ hnl, ← HN.out] at this
        exact this)
      have HK3 := Lib.hid (K2.setCell (q := ⟨cb, n * 3 + 1, none⟩) (.inr hcb) (.int .i64 (code.length : Int)))
      clear K2 O2 hgk hy hcb hl hnl
      go_wp2_with fail
      first
        | (refine ⟨⟨k + 1, by omega, by go_num, HK3.out, HO3.out⟩, ?_⟩; simp [intOf]; omega)
        | (go_roundw; case rel => exact ⟨k + 1, by omega, by go_num, HK3.out, HO3.out⟩; case measure => (simp [intOf]; omega))
    · have hk8 : k = gs.length := by omega
      subst hk8
      have B3 := HB.out.young K2
      have c3 : wr.cell? ⟨p, 0, none⟩ = some (.slice a code.length c) := by rw [cell_block B3.b.own]; rfl
      have f3 : wr.frozen? ⟨p, 0, none⟩ = false := frozen_block B3.b.own 0
      rw [List.take_length] at O2
      have HT := Lib.hid (HB.out.set_code (code' := closeG code gs) K2 (by rw [closeG_length]; exact O2) (fun r hr => HF.out _ (HA1.out r hr)))
      clear K2 O2 B3
      go_wp2_with fail
      all_goals (first | go_end0 | skip)
      all_goals exact ⟨rfl, ⟨_, HT.out.1⟩, HT.out.2⟩
end Go.Proofs.Ytdpoobkfhmmbjaa
