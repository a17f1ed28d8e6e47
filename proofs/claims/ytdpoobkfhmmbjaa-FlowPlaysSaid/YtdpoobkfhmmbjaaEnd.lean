/- The walk of flow.Builder's End. -/
import Derived.Test.YtdpoobkfhmmbjaaActs
namespace Go.Proofs.Ytdpoobkfhmmbjaa
open Go.RowKit
open Go.MapKept (heap_alloc)
section
variable {F : Nat → Prop} {w : World} {p : Nat} {vc vp : Value} {code : List I3} {ps : List (Prt × Value)}
set_option maxRecDepth 100000 in
set_option maxHeartbeats 2000000 in
theorem end_open (B : Bld F w p vc vp code ps) (h : 0 < ps.length) (hpl : ps.length < 99) :
    Calls Try.prog 15 #[.pointer (some ⟨p, 0, none⟩)] w fun e w' => e = .returned (.tuple #[.agg #[.slice none 0 0], .int .i64 (-22)]) ∧ Bld F w' p vc vp code ps ∧ Kept F w w' := by
  have BA := B.tight.alloc (.cells #[.slice none 0 0] 34)
  obtain ⟨a, c, rfl, g1, g2, g3⟩ := owns_slice B.parts
  have c1 : (w.alloc (.cells #[.slice none 0 0] 34)).cell? ⟨p, 1, none⟩ = some (.slice a ps.length c) := by rw [cell_block BA.own]; rfl
  have HB := Lib.hid BA
  have HK := Lib.hid ((Kept.refl F w).alloc (.cells #[.slice none 0 0] 34))
  have hpos : (0 : Int) < (ps.length : Int) := by omega
  clear B BA g3
  go_enter Try.func15, Try.ntmps15
  go_wp2_with fail
  go_returns
  refine ⟨rfl, ?_, ?_⟩
  · first | exact HB.out.mono (fun r hr => hr.1) | exact (HB.out.setOff (q := ⟨w.heap.size, 0, none⟩) (fun h => Nat.lt_irrefl _ h.2) _).mono (fun r hr => hr.1)
  · first | exact HK.out | exact HK.out.setCell (.inr (Nat.le_refl _)) _
set_option maxRecDepth 100000 in
set_option maxHeartbeats 2000000 in
theorem end_ok (B : Bld F w p vc vp code []) (hF : ∀ r, w.heap.size ≤ r → F r) (hlen : code.length < 600) :
    Calls Try.prog 15 #[.pointer (some ⟨p, 0, none⟩)] w fun e w' => ∃ dv, e = .returned (.tuple #[.agg #[dv], .int .i64 0]) ∧ w'.ownsRow 0 31 3 dv (code.length + 1) (codeV (code ++ [(15, 0, 0)])) ∧
      Bld (fun r => F r ∧ dv.ownBlock ≠ some r) w' p (.slice none 0 0) vp [] [] ∧ (∀ k, dv.ownBlock = some k → F k) ∧ Kept F w w' := by
  have B0 := (B.tight.alloc (.cells #[.slice none 0 0] 34)).mono (G := fun r => F r ∧ r ≠ w.heap.size) (fun r hr => ⟨hr.1, by have := hr.2; omega⟩)
  have BA := (B0.alloc (.cells #[.int .u8 15, .int .i64 0, .int .i64 0] 31))
  obtain ⟨a, c, rfl, g1, g2, g3⟩ := owns_slice B.parts
  obtain ⟨a', c', rfl, g1', g2', g3'⟩ := owns_slice B.code
  have c1 : (w.alloc (.cells #[.slice none 0 0] 34)).cell? ⟨p, 1, none⟩ = some (.slice a 0 c) := by rw [cell_block B0.own]; rfl
  have c0 : (w.alloc (.cells #[.slice none 0 0] 34)).cell? ⟨p, 0, none⟩ = some (.slice a' code.length c') := by rw [cell_block B0.own]; rfl
  have HB0 := Lib.hid B0
  have HBA := Lib.hid BA
  have HRES := Lib.hid (show ((w.alloc (.cells #[.slice none 0 0] 34)).alloc (.cells #[.int .u8 15, .int .i64 0, .int .i64 0] 31)).heap[w.heap.size]? = some (.cells #[.slice none 0 0] 34 (0, 0)) from (((Kept.refl (fun _ => False) _).alloc (.cells #[.int .u8 15, .int .i64 0, .int .i64 0] 31)).block _ (by simp) (fun h => h)).trans (heap_alloc w _).1)
  have HK := Lib.hid (((Kept.refl F w).alloc (.cells #[.slice none 0 0] 34)).alloc (.cells #[.int .u8 15, .int .i64 0, .int .i64 0] 31))
  have HF := Lib.hid hF
  have HSZ := Lib.hid (show (w.alloc (.cells #[.slice none 0 0] 34)).heap.size = w.heap.size + 1 by simp)
  obtain ⟨i0, hi0, hz0, hz1, hz2⟩ := info_parts info31
  rw [show ([] : List (Prt × Value)).length = 0 from rfl] at *
  clear B B0 BA g3 g3' hF
  go_enter Try.func15, Try.ntmps15
  go_wp2_with (first
    | (at_builtin; refine wpList_append_lies _ rfl _ _ _ rfl 0 31 i0 _ 3 24 Try.underlying32 hi0 hz0 hz1 hz2 rfl (by omega) (.slice a' code.length c') code.length (codeV code) rfl HBA.out.code ⟨w.heap.size + 1, 0, none⟩ 1 1 [.int .u8 15, .int .i64 0, .int .i64 0] rfl rfl (World.news_of_block (cs := #[.int .u8 15, .int .i64 0, .int .i64 0]) (t := 31) (fr := (0, 0)) (by have := heap_alloc_new (w.alloc (.cells #[.slice none 0 0] 34)) (.cells #[.int .u8 15, .int .i64 0, .int .i64 0] 31); rwa [HSZ.out] at this)) (by simp [Value.oneCell']) (by omega) (by simp only [maxLen]; omega) (by omega) (by omega) (w.heap.size + 1 + 1) (by simp) ?_; intro gg cap w4 hown1 hgrow hat hlt
       have K1 : Kept (fun r => (Value.slice a' code.length c').ownBlock = some r) _ w4 := (Kept.refl _ _).grown hgrow (fun k hk => .inl hk)
       have HGF := Lib.hid (show F gg by rcases hat with h | h; exact (HBA.out.fc _ h).1; exact HF.out _ (by omega))
       have HGN := Lib.hid (show gg ≠ w.heap.size by rcases hat with h | h; exact (HBA.out.fc _ h).2; omega)
       have hp1 := (K1.block p (Array.getElem?_eq_some_iff.1 HBA.out.own).1 (owns_ne HBA.out.code HBA.out.own (by decide))).trans HBA.out.own
       have hr1 := (K1.block w.heap.size (Array.getElem?_eq_some_iff.1 HRES.out).1 (owns_ne HBA.out.code HRES.out (by decide))).trans HRES.out
       have HPN := Lib.hid (show p ≠ gg from fun h => owns_ne hown1 hp1 (by decide) (by rw [h]; rfl))
       have hs4 := K1.size
       simp at hs4
       have hpa : (w4.alloc (.cells #[(.slice (some ⟨gg, 0, none⟩) (code.length + 1) cap)] 34)).heap[p]? = some (.cells #[.slice a' code.length c', .slice a 0 c] 61 (0, 0)) := (((Kept.refl (fun _ => False) w4).alloc _).block p (Array.getElem?_eq_some_iff.1 hp1).1 (fun h => h)).trans hp1
       have hra : (w4.alloc (.cells #[(.slice (some ⟨gg, 0, none⟩) (code.length + 1) cap)] 34)).heap[w.heap.size]? = some (.cells #[.slice none 0 0] 34 (0, 0)) := (((Kept.refl (fun _ => False) w4).alloc _).block _ (Array.getElem?_eq_some_iff.1 hr1).1 (fun h => h)).trans hr1
       have hta : (w4.alloc (.cells #[(.slice (some ⟨gg, 0, none⟩) (code.length + 1) cap)] 34)).heap[w4.heap.size]? = some (.cells #[(.slice (some ⟨gg, 0, none⟩) (code.length + 1) cap)] 34 (0, 0)) := (heap_alloc w4 _).1
       have hplt := (Array.getElem?_eq_some_iff.1 hp1).1
       have hpne : p ≠ w.heap.size := (HBA.out.fp).2
       have x1 : (w4.alloc (.cells #[(.slice (some ⟨gg, 0, none⟩) (code.length + 1) cap)] 34)).cell? ⟨p, 0, none⟩ = some (.slice a' code.length c') := by rw [cell_block hpa]; rfl
       have x2 : (w4.alloc (.cells #[(.slice (some ⟨gg, 0, none⟩) (code.length + 1) cap)] 34)).frozen? ⟨p, 0, none⟩ = false := frozen_block hpa 0
       have hrb : ((w4.alloc (.cells #[(.slice (some ⟨gg, 0, none⟩) (code.length + 1) cap)] 34)).setCell ⟨p, 0, none⟩ (.slice none 0 0)).heap[w.heap.size]? = some (.cells #[.slice none 0 0] 34 (0, 0)) := (Below.heap_setCell _ _ _ _ hpne.symm).trans hra
       have htb : ((w4.alloc (.cells #[(.slice (some ⟨gg, 0, none⟩) (code.length + 1) cap)] 34)).setCell ⟨p, 0, none⟩ (.slice none 0 0)).heap[w4.heap.size]? = some (.cells #[(.slice (some ⟨gg, 0, none⟩) (code.length + 1) cap)] 34 (0, 0)) := (Below.heap_setCell _ _ _ _ (by intro h; simp at h; omega)).trans hta
       have x3 : ((w4.alloc (.cells #[(.slice (some ⟨gg, 0, none⟩) (code.length + 1) cap)] 34)).setCell ⟨p, 0, none⟩ (.slice none 0 0)).cell? ⟨w.heap.size, 0, none⟩ = some (.slice none 0 0) := by rw [cell_block hrb]; rfl
       have x4 : ((w4.alloc (.cells #[(.slice (some ⟨gg, 0, none⟩) (code.length + 1) cap)] 34)).setCell ⟨p, 0, none⟩ (.slice none 0 0)).frozen? ⟨w.heap.size, 0, none⟩ = false := frozen_block hrb 0
       have x5 : ((w4.alloc (.cells #[(.slice (some ⟨gg, 0, none⟩) (code.length + 1) cap)] 34)).setCell ⟨p, 0, none⟩ (.slice none 0 0)).cell? ⟨w4.heap.size, 0, none⟩ = some (.slice (some ⟨gg, 0, none⟩) (code.length + 1) cap) := by rw [cell_block htb]; rfl
       have hq4 : w4.ownsRow 0 85 3 (.slice a 0 c) 0 [] := owns_kept HBA.out.parts K1 (fun k hk h => by
         rcases owns_apart HBA.out.code HBA.out.parts (by decide) with h1 | h1
         · rw [h1] at h; cases h
         · exact h1 (h.trans hk.symm))
       have HQN := Lib.hid (show ∀ k, (Value.slice a 0 c).ownBlock = some k → k ≠ gg from fun k hk h => by
         rcases owns_apart hown1 hq4 (by decide) with h1 | h1
         · cases h1
         · exact h1 (by rw [hk, h]; rfl))
       have HP4 := Lib.hid hp1
       have HO4 := Lib.hid hown1
       have HQ4 := Lib.hid hq4
       have HK4 := Lib.hid (HK.out.trans (K1.mono (fun r hr => (HBA.out.fc r hr).1)))
       have HS4 := Lib.hid hs4
       clear hpa hra hta hrb htb hown1 hgrow hat hlt K1 hp1 hr1 hs4 hq4 hplt hpne))
  have x6 : (((w4.alloc (.cells #[(.slice (some ⟨gg, 0, none⟩) (code.length + 1) cap)] 34)).setCell ⟨p, 0, none⟩ (.slice none 0 0)).setCell ⟨w.heap.size, 0, none⟩ (.slice (some ⟨gg, 0, none⟩) (code.length + 1) cap)).cell? ⟨w.heap.size, 0, none⟩ = some (.slice (some ⟨gg, 0, none⟩) (code.length + 1) cap) := World.cell?_setCell_same' _ _ _ (by rw [x3]; rfl)
  refine bodyPost_ret (v := .tuple #[.agg #[(.slice (some ⟨gg, 0, none⟩) (code.length + 1) cap)], .int .i64 0]) (by simp [results, Try.results15, go_sem, x6]) rfl ?_
  have hpa : (w4.alloc (.cells #[(.slice (some ⟨gg, 0, none⟩) (code.length + 1) cap)] 34)).heap[p]? = some (.cells #[.slice a' code.length c', .slice a 0 c] 61 (0, 0)) := (((Kept.refl (fun _ => False) w4).alloc _).block p (Array.getElem?_eq_some_iff.1 HP4.out).1 (fun h => h)).trans HP4.out
  have KA : Kept (fun r => r = p ∨ r = w.heap.size) w4 (((w4.alloc (.cells #[(.slice (some ⟨gg, 0, none⟩) (code.length + 1) cap)] 34)).setCell ⟨p, 0, none⟩ (.slice none 0 0)).setCell ⟨w.heap.size, 0, none⟩ (.slice (some ⟨gg, 0, none⟩) (code.length + 1) cap)) := (((Kept.refl _ w4).alloc _).setCell (.inl (.inl rfl)) _).setCell (.inl (.inr rfl)) _
  refine ⟨(.slice (some ⟨gg, 0, none⟩) (code.length + 1) cap), rfl, ?_, ⟨?_, World.ownsRow_nil _ _ _ _, ?_, by simp, .nil, ⟨HBA.out.fp.1, fun h => HPN.out (by simp [Value.ownBlock] at h; exact h.symm)⟩, by simp [Value.ownBlock], ?_, by simp⟩, ?_, ?_⟩
  · have := owns_kept HO4.out KA (fun k hk h => by
      simp [Value.ownBlock] at hk
      subst hk
      rcases h with h | h
      · exact HPN.out h.symm
      · exact HGN.out h)
    simpa [codeV, insV] using this
  · exact (Below.heap_setCell _ _ _ _ (HBA.out.fp.2)).trans (own_set0 hpa)
  · exact owns_kept HQ4.out KA (fun k hk h => by
      rcases h with h | h
      · exact owns_ne HBA.out.parts HBA.out.own (by decide) (by rw [hk, h])
      · exact (HBA.out.fq k hk).2 h)
  · intro k hk
    exact ⟨(HBA.out.fq k hk).1, fun h => HQN.out k hk (by simp [Value.ownBlock] at h; exact h.symm)⟩
  · intro k hk
    simp [Value.ownBlock] at hk
    subst hk
    exact HGF.out
  · exact ((HK4.out.alloc _).setCell (.inl HBA.out.fp.1) _).setCell (.inr (Nat.le_refl _)) _
end
end Go.Proofs.Ytdpoobkfhmmbjaa
