/- The walk of the reference's pop. -/
import Derived.Test.YtdpoobkfhmmbjaaRefLib
import Derived.Deep.RegionHeld3
import Derived.StillTailTactics
import Derived.Handy
namespace Go.Proofs.Ytdpoobkfhmmbjaa
open Go.RowKit
open Go.MapKept (heap_alloc)
theorem set3 {W : World} {r : Nat} {t : TypeId} {x0 x1 x2 : Value} (h : W.heap[r]? = some (.cells #[x0, x1, x2] t (0, 0))) (a b c : Value) :
    (((W.setCell ⟨r, 0, none⟩ a).setCell ⟨r, 1, none⟩ b).setCell ⟨r, 2, none⟩ c).heap[r]? = some (.cells #[a, b, c] t (0, 0)) := by
  have h1 : (W.setCell ⟨r, 0, none⟩ a).heap[r]? = some (.cells #[a, x1, x2] t (0, 0)) := by rw [setCell_eq_setRow W r 0 _ _ _ _ h, setRow_heap W r _ _ _ _ h]; rfl
  have h2 : ((W.setCell ⟨r, 0, none⟩ a).setCell ⟨r, 1, none⟩ b).heap[r]? = some (.cells #[a, b, x2] t (0, 0)) := by rw [setCell_eq_setRow _ r 1 _ _ _ _ h1, setRow_heap _ r _ _ _ _ h1]; rfl
  rw [setCell_eq_setRow _ r 2 _ _ _ _ h2, setRow_heap _ r _ _ _ _ h2]; rfl
theorem own_cut {w : World} {v : Value} {ps : List (Prt × Value)} {q : Prt × Value} {a : Option Addr} {n c : Nat} (h : w.ownsRow 0 80 3 v (ps ++ [q]).length (partsV (ps ++ [q]))) (hv : v = .slice a n c) : w.ownsRow 0 80 3 (.slice a ps.length c) ps.length (partsV ps) := by
  subst hv
  rcases h.2 with ⟨h1, h2⟩ | ⟨g, cap, cur, h1, hb, hgg, hn, hm, hs, ht⟩
  · simp at h2
  · injection h1 with h3 h4 h5
    subst h3; subst h5
    refine ⟨by rw [partsV_length], .inr ⟨g, c, cur, rfl, hb, hgg, by simp at hn; omega, hm, hs, ?_⟩⟩
    have e := congrArg (List.take (ps.length * 3)) ht
    have l := partsV_length ps
    rw [List.take_take, partsV_append, List.take_append_of_le_length (by omega), show List.take (ps.length * 3) (partsV ps) = partsV ps from List.take_of_length_le (by omega), Nat.min_eq_left (by simp; omega)] at e
    exact e
set_option maxRecDepth 100000 in
set_option maxHeartbeats 4000000 in
theorem rpop_any {F : Nat → Prop} {w : World} {p : Nat} {vc vp : Value} {code : List I3} {ps : List (Prt × Value)} {q : Prt × Value} (B : RBld F w p vc vp code (ps ++ [q])) (h : ps.length < 99) :
    Calls Try.prog 37 #[.pointer (some ⟨p, 0, none⟩)] w fun e w' => e = .returned (.agg #[.int .i64 q.1.kind, .int .i64 q.1.at_, q.2]) ∧ (∃ vp', RBld F w' p vc vp' code ps) ∧ Kept (fun r => r = p) w w' ∧ w'.ownsRow 0 3 1 q.2 q.1.gaps.length (q.1.gaps.map intV) := by
  obtain ⟨⟨kind, at_, gaps⟩, qv⟩ := q
  obtain ⟨qa, qc, hq, hq1, hq2, hq3⟩ := owns_slice (B.b.gaps (⟨kind, at_, gaps⟩, qv) (by simp))
  dsimp only at hq hq1 hq2 hq3
  subst hq
  obtain ⟨a, c, hv, h1, h2, h3⟩ := owns_slice B.b.parts
  rw [show (ps ++ [((⟨kind, at_, gaps⟩ : Prt), Value.slice qa gaps.length qc)]).length = ps.length + 1 by simp] at *
  obtain ⟨g0, g1, g2⟩ := partsV_get (ps ++ [(⟨kind, at_, gaps⟩, .slice qa gaps.length qc)]) ps.length (⟨kind, at_, gaps⟩, .slice qa gaps.length qc) (by simp)
  have hpA := B.b.parts
  rw [show (ps ++ [((⟨kind, at_, gaps⟩ : Prt), Value.slice qa gaps.length qc)]).length = ps.length + 1 by simp, hv] at hpA
  obtain ⟨g, hg, _, _⟩ := owns_cell hpA g0
  subst hg
  subst hv
  have hp := (Array.getElem?_eq_some_iff.1 B.b.own).1
  obtain ⟨wa, hwa⟩ : ∃ wa, w.alloc (.cells #[.int .i64 0, .int .i64 0, .slice none 0 0] 80) = wa := ⟨_, rfl⟩
  have HK0 := Lib.hid (show Kept NB w wa by rw [← hwa]; exact (Kept.refl _ w).alloc _)
  have HB := Lib.hid (B.tight.young HK0.out)
  have HS := Lib.hid (show ∀ W, Kept NB wa W → W.cell? ⟨p, 1, none⟩ = some (.slice (some ⟨g, 0, none⟩) (ps.length + 1) c) ∧ W.cell? ⟨g, ps.length * 3, none⟩ = some (.int .i64 kind) ∧ W.cell? ⟨g, ps.length * 3 + 1, none⟩ = some (.int .i64 at_) ∧ W.cell? ⟨g, ps.length * 3 + 2, none⟩ = some (.slice qa gaps.length qc) from fun W K => by
    have B2 := HB.out.young K
    have hp2 := B2.b.parts
    rw [show (ps ++ [((⟨kind, at_, gaps⟩ : Prt), Value.slice qa gaps.length qc)]).length = ps.length + 1 by simp] at hp2
    obtain ⟨g', hg', e0, _⟩ := owns_cell hp2 g0
    cases hg'
    obtain ⟨g', hg', e1, _⟩ := owns_cell hp2 g1
    cases hg'
    obtain ⟨g', hg', e2, _⟩ := owns_cell hp2 g2
    cases hg'
    exact ⟨by rw [cell_block B2.b.own]; rfl, e0, e1, e2⟩)
  have HW := Lib.hid hwa
  have hm : ps.length < 99 := h
  have i1 : IntKind.i64.wrap ((ps.length : Int) + 1 - 1) = (ps.length : Int) := by rw [show (ps.length : Int) + 1 - 1 = (ps.length : Int) by omega]; exact IntWalk.i64_in _ (by omega)
  have i4 : IntKind.i64.wrap (ps.length : Int) = (ps.length : Int) := IntWalk.i64_in _ (by omega)
  have i2 : (0 : Int) ≤ (ps.length : Int) := by omega
  have i3 : (ps.length : Int) < (ps.length : Int) + 1 := by omega
  clear B h3 hq3 hpA g0 g1 g2 h
  go_enter Try.func37, Try.ntmps37
  go_wp2_with fail
  clear hwa
  go_region_held3 (fun w' => Kept NB wa w' ∧ w'.cell? ⟨p, 1, none⟩ = some (.slice (some ⟨g, 0, none⟩) (ps.length + 1) c) ∧ w'.cell? ⟨g, ps.length * 3, none⟩ = some (.int .i64 kind) ∧ w'.cell? ⟨g, ps.length * 3 + 1, none⟩ = some (.int .i64 at_) ∧ w'.cell? ⟨g, ps.length * 3 + 2, none⟩ = some (.slice qa gaps.length qc))
    ((refine (fun K => ⟨K, HS.out _ K⟩ : Kept NB wa _ → _) ?_
      (repeat (first | exact Kept.refl _ _ | apply Kept.alloc | apply Kept.drew | (refine Kept.setCell ?_ (.inr (Nat.le_refl _)) _)))))
    (fail)
  obtain ⟨wb, hwb⟩ : ∃ wb, (wa.alloc (.cells #[.int .i64 kind, .int .i64 at_, .slice qa gaps.length qc] 80)).drew = wb := ⟨_, rfl⟩
  rw [hwb]
  have HK1 := Lib.hid (show Kept NB wa wb by rw [← hwb]; exact ((Kept.refl _ _).alloc _).drew)
  have HB1 := Lib.hid (HB.out.young HK1.out)
  have c1 : wb.cell? ⟨p, 1, none⟩ = some (.slice (some ⟨g, 0, none⟩) (ps.length + 1) c) := (HS.out _ HK1.out).1
  have f1 : wb.frozen? ⟨p, 1, none⟩ = false := frozen_block HB1.out.b.own 1
  have HX := Lib.hid (show wb.heap[wa.heap.size]? = some (.cells #[.int .i64 kind, .int .i64 at_, .slice qa gaps.length qc] 80 (0, 0)) by rw [← hwb]; exact (heap_alloc wa _).1)
  have HY := Lib.hid (show wb.heap[w.heap.size]? = some (.cells #[.int .i64 0, .int .i64 0, .slice none 0 0] 80 (0, 0)) by
    have hy : wa.heap[w.heap.size]? = some (.cells #[.int .i64 0, .int .i64 0, .slice none 0 0] 80 (0, 0)) := by rw [← HW.out]; exact (heap_alloc w _).1
    exact (HK1.out.block _ (Array.getElem?_eq_some_iff.1 hy).1 (fun h => h)).trans hy)
  have hsz : wa.heap.size = w.heap.size + 1 := by rw [← HW.out]; simp
  have HSZ := Lib.hid hsz
  have i5 : (ps.length : Int) ≤ (c : Int) := by omega
  have i6 : ((ps.length : Int)).toNat = ps.length := by omega
  have i7 : ps.length ≤ c := by omega
  clear hwb hsz
  go_wp2_with fail
  go_still_tail 14, (by kernel_rfl)
  change wpList _ _ _ _ _ wb.drew
  have HKc := Lib.hid (HK1.out.drew)
  have HBc := Lib.hid (HB.out.young HKc.out)
  have c2 : wb.drew.cell? ⟨p, 1, none⟩ = some (.slice (some ⟨g, 0, none⟩) (ps.length + 1) c) := c1
  have f2 : wb.drew.frozen? ⟨p, 1, none⟩ = false := f1
  have HX2 := Lib.hid (show wb.drew.heap[wa.heap.size]? = some (.cells #[.int .i64 kind, .int .i64 at_, .slice qa gaps.length qc] 80 (0, 0)) from HX.out)
  have HY2 := Lib.hid (show wb.drew.heap[w.heap.size]? = some (.cells #[.int .i64 0, .int .i64 0, .slice none 0 0] 80 (0, 0)) from HY.out)
  clear c1 f1
  generalize wb.drew = wc at *
  have c4 : wc.cell? ⟨wa.heap.size, 0, none⟩ = some (.int .i64 kind) := by rw [cell_block HX2.out]; rfl
  have c5 : wc.cell? ⟨wa.heap.size, 1, none⟩ = some (.int .i64 at_) := by rw [cell_block HX2.out]; rfl
  have c6 : wc.cell? ⟨wa.heap.size, 2, none⟩ = some (.slice qa gaps.length qc) := by rw [cell_block HX2.out]; rfl
  have d4 : wc.cell? ⟨w.heap.size, 0, none⟩ = some (.int .i64 0) := by rw [cell_block HY2.out]; rfl
  have d5 : wc.cell? ⟨w.heap.size, 1, none⟩ = some (.int .i64 0) := by rw [cell_block HY2.out]; rfl
  have d6 : wc.cell? ⟨w.heap.size, 2, none⟩ = some (.slice none 0 0) := by rw [cell_block HY2.out]; rfl
  have e4 : wc.frozen? ⟨w.heap.size, 0, none⟩ = false := frozen_block HY2.out 0
  have e5 : wc.frozen? ⟨w.heap.size, 1, none⟩ = false := frozen_block HY2.out 1
  have e6 : wc.frozen? ⟨w.heap.size, 2, none⟩ = false := frozen_block HY2.out 2
  have n1 : ¬ p = w.heap.size := by omega
  have n2 : ¬ w.heap.size = p := by omega
  have n3 : ¬ p = wa.heap.size := by have := HSZ.out; omega
  have n4 : ¬ wa.heap.size = p := by have := HSZ.out; omega
  have n5 : ¬ w.heap.size = wa.heap.size := by have := HSZ.out; omega
  have n6 : ¬ wa.heap.size = w.heap.size := by have := HSZ.out; omega
  go_wp2_with fail
  have hcut : wc.ownsRow 0 80 3 (.slice (some ⟨g, 0, none⟩) ps.length c) ps.length (partsV ps) := own_cut HBc.out.b.parts rfl
  have T := HB.out.set_parts (ps' := ps) HKc.out hcut (fun k hk => HBc.out.fq k (by simpa [Value.ownBlock] using hk)) (fun q hq => HBc.out.b.gaps q (by simp [hq])) (fun q hq => HBc.out.fg q (by simp [hq]))
  have HT := Lib.hid T
  have HZ := set3 (show (wc.setCell ⟨p, 1, none⟩ (.slice (some ⟨g, 0, none⟩) ps.length c)).heap[w.heap.size]? = some (.cells #[.int .i64 0, .int .i64 0, .slice none 0 0] 80 (0, 0)) from (Below.heap_setCell wc ⟨p, 1, none⟩ _ _ (fun h => n2 h)).trans HY2.out) (.int .i64 kind) (.int .i64 at_) (.slice qa gaps.length qc)
  have hgq := HBc.out.b.gaps (⟨kind, at_, gaps⟩, .slice qa gaps.length qc) (by simp)
  have hgk : ∀ k, (Value.slice qa gaps.length qc).ownBlock = some k → k < w.heap.size := fun k hk => (HBc.out.fg (⟨kind, at_, gaps⟩, .slice qa gaps.length qc) (by simp) k hk).2
  have HE := Lib.hid (show RBld F _ p vc _ code ps ∧ Kept (fun r => r = p) w _ ∧ World.ownsRow _ 0 3 1 (.slice qa gaps.length qc) gaps.length (gaps.map intV) from ⟨(((HT.out.1.setOff (q := ⟨w.heap.size, 0, none⟩) (fun h => Nat.lt_irrefl _ h.2) (.int .i64 kind)).setOff (q := ⟨w.heap.size, 1, none⟩) (fun h => Nat.lt_irrefl _ h.2) (.int .i64 at_)).setOff (q := ⟨w.heap.size, 2, none⟩) (fun h => Nat.lt_irrefl _ h.2) (.slice qa gaps.length qc)).mono (fun r hr => hr.1),
    ((((HK0.out.mono (T := fun r => r = p) (fun _ h => h.elim)).trans HT.out.2).setCell (q := ⟨w.heap.size, 0, none⟩) (.inr (Nat.le_refl _)) (.int .i64 kind)).setCell (q := ⟨w.heap.size, 1, none⟩) (.inr (Nat.le_refl _)) (.int .i64 at_)).setCell (q := ⟨w.heap.size, 2, none⟩) (.inr (Nat.le_refl _)) (.slice qa gaps.length qc), owns_off (owns_off (owns_off (owns_off hgq (q := ⟨p, 1, none⟩) (owns_ne hgq HBc.out.b.own (by decide)) (.slice (some ⟨g, 0, none⟩) ps.length c)) (q := ⟨w.heap.size, 0, none⟩) (fun h => Nat.lt_irrefl _ (hgk _ h)) (.int .i64 kind)) (q := ⟨w.heap.size, 1, none⟩) (fun h => Nat.lt_irrefl _ (hgk _ h)) (.int .i64 at_)) (q := ⟨w.heap.size, 2, none⟩) (fun h => Nat.lt_irrefl _ (hgk _ h)) (.slice qa gaps.length qc)⟩)
  clear hcut T hgq hgk
  generalize (((wc.setCell ⟨p, 1, none⟩ (.slice (some ⟨g, 0, none⟩) ps.length c)).setCell ⟨w.heap.size, 0, none⟩ (.int .i64 kind)).setCell ⟨w.heap.size, 1, none⟩ (.int .i64 at_)).setCell ⟨w.heap.size, 2, none⟩ (.slice qa gaps.length qc) = wz at *
  have z0 : wz.cell? ⟨w.heap.size, 0, none⟩ = some (.int .i64 kind) := by rw [cell_block HZ]; rfl
  have z1 : wz.cell? ⟨w.heap.size, 1, none⟩ = some (.int .i64 at_) := by rw [cell_block HZ]; rfl
  have z2 : wz.cell? ⟨w.heap.size, 2, none⟩ = some (.slice qa gaps.length qc) := by rw [cell_block HZ]; rfl
  exact bodyPost_ret (v := .agg #[.int .i64 kind, .int .i64 at_, .slice qa gaps.length qc]) (by simp [results, Try.results37, go_sem, z0, z1, z2]) rfl ⟨rfl, ⟨_, HE.out.1⟩, HE.out.2.1, HE.out.2.2⟩
end Go.Proofs.Ytdpoobkfhmmbjaa
