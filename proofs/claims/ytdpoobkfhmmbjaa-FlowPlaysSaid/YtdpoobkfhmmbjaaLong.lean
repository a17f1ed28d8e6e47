/- The walk of rhytonref02.long: 128 rounds of a division, bit by bit. -/
import Derived.Test.YtdpoobkfhmmbjaaPair
import Derived.Deep.RegionWith
import Derived.StillTailTactics
namespace Go.Proofs.Ytdpoobkfhmmbjaa
open Go.RowKit
def longStep (b : Int) (s : P2 × P2 × P2) : P2 × P2 × P2 :=
  let l := if s.2.1.2 < 0 then pAdd (pAdd s.1 s.1) (1, 0) else pAdd s.1 s.1
  if pLess l (b, 0) = true then (l, pAdd s.2.1 s.2.1, pAdd s.2.2 s.2.2) else (pAdd l (pNeg (b, 0)), pAdd s.2.1 s.2.1, pAdd (pAdd s.2.2 s.2.2) (1, 0))
def longN (b : Int) (p : P2) : Nat → P2 × P2 × P2
  | 0 => ((0, 0), p, (0, 0))
  | k + 1 => longStep b (longN b p k)
structure Box4 (w : World) (s : Nat) (l p q : P2) : Prop where
  hp : w.heap[s]? = some (.cells #[.int .i64 p.1, .int .i64 p.2] 72 (0, 0))
  hr : w.heap[s + 1]? = some (.cells #[.int .i64 0, .int .i64 0] 72 (0, 0))
  hl : w.heap[s + 1 + 1]? = some (.cells #[.int .i64 l.1, .int .i64 l.2] 72 (0, 0))
  hq : w.heap[s + 1 + 1 + 1]? = some (.cells #[.int .i64 q.1, .int .i64 q.2] 72 (0, 0))
section
variable {w w' : World} {s : Nat} {l p q : P2}
theorem Box4.keep (X : Box4 w s l p q) (K : Kept NB w w') : Box4 w' s l p q :=
  ⟨(K.block _ (Array.getElem?_eq_some_iff.1 X.hp).1 (fun h => h)).trans X.hp, (K.block _ (Array.getElem?_eq_some_iff.1 X.hr).1 (fun h => h)).trans X.hr, (K.block _ (Array.getElem?_eq_some_iff.1 X.hl).1 (fun h => h)).trans X.hl, (K.block _ (Array.getElem?_eq_some_iff.1 X.hq).1 (fun h => h)).trans X.hq⟩
theorem two_other (w : World) (g j : Nat) (x y : Value) (h : j ≠ g) : ((w.setCell ⟨g, 0, none⟩ x).setCell ⟨g, 1, none⟩ y).heap[j]? = w.heap[j]? := (Below.heap_setCell _ _ _ _ h).trans (Below.heap_setCell _ _ _ _ h)
theorem Box4.setP (X : Box4 w s l p q) (x y : Int) : Box4 ((w.setCell ⟨s, 0, none⟩ (.int .i64 x)).setCell ⟨s, 1, none⟩ (.int .i64 y)) s l (x, y) q :=
  ⟨(box2_set X.hp _ _).1, (two_other _ _ _ _ _ (by omega)).trans X.hr, (two_other _ _ _ _ _ (by omega)).trans X.hl, (two_other _ _ _ _ _ (by omega)).trans X.hq⟩
theorem Box4.setL (X : Box4 w s l p q) (x y : Int) : Box4 ((w.setCell ⟨s + 1 + 1, 0, none⟩ (.int .i64 x)).setCell ⟨s + 1 + 1, 1, none⟩ (.int .i64 y)) s (x, y) p q :=
  ⟨(two_other _ _ _ _ _ (by omega)).trans X.hp, (two_other _ _ _ _ _ (by omega)).trans X.hr, (box2_set X.hl _ _).1, (two_other _ _ _ _ _ (by omega)).trans X.hq⟩
theorem Box4.setQ (X : Box4 w s l p q) (x y : Int) : Box4 ((w.setCell ⟨s + 1 + 1 + 1, 0, none⟩ (.int .i64 x)).setCell ⟨s + 1 + 1 + 1, 1, none⟩ (.int .i64 y)) s l p (x, y) :=
  ⟨(two_other _ _ _ _ _ (by omega)).trans X.hp, (two_other _ _ _ _ _ (by omega)).trans X.hr, (two_other _ _ _ _ _ (by omega)).trans X.hl, (box2_set X.hq _ _).1⟩
theorem Box4.cells (X : Box4 w s l p q) : (w.cell? ⟨s, 0, none⟩ = some (.int .i64 p.1) ∧ w.cell? ⟨s, 1, none⟩ = some (.int .i64 p.2)) ∧ (w.cell? ⟨s + 1 + 1, 0, none⟩ = some (.int .i64 l.1) ∧ w.cell? ⟨s + 1 + 1, 1, none⟩ = some (.int .i64 l.2)) ∧ (w.cell? ⟨s + 1 + 1 + 1, 0, none⟩ = some (.int .i64 q.1) ∧ w.cell? ⟨s + 1 + 1 + 1, 1, none⟩ = some (.int .i64 q.2)) :=
  ⟨⟨by rw [cell_block X.hp]; rfl, by rw [cell_block X.hp]; rfl⟩, ⟨by rw [cell_block X.hl]; rfl, by rw [cell_block X.hl]; rfl⟩, ⟨by rw [cell_block X.hq]; rfl, by rw [cell_block X.hq]; rfl⟩⟩
/-- what a store of a pair wants -/
theorem pair_store {b : Nat} {u v : Value} {t : TypeId} (hb : w.heap[b]? = some (.cells #[u, v] t (0, 0))) (x y : Value) :
    w.cell? ⟨b, 0, none⟩ = some u ∧ w.frozen? ⟨b, 0, none⟩ = false ∧ (w.setCell ⟨b, 0, none⟩ x).cell? ⟨b, 1, none⟩ = some v ∧ (w.setCell ⟨b, 0, none⟩ x).frozen? ⟨b, 1, none⟩ = false := by
  obtain ⟨_, y1, y2, y3, y4, _, _⟩ := box2_set hb x y
  exact ⟨y1, y2, y3, y4⟩
theorem Kept.two (K : Kept NB w w') {g : Nat} (hg : w.heap.size ≤ g) (x y : Value) : Kept NB w ((w'.setCell ⟨g, 0, none⟩ x).setCell ⟨g, 1, none⟩ y) := (K.setCell (.inr hg) _).setCell (.inr hg) _
end
set_option maxRecDepth 100000 in
set_option maxHeartbeats 8000000 in
theorem long_any (p0 : P2) (b : Int) (w : World) : Calls Try.prog 70 #[.agg #[.int .i64 p0.1, .int .i64 p0.2], .int .i64 b] w fun e w' => e = .returned (.tuple #[.int .i64 (longN b p0 128).1.1, .agg #[.int .i64 (longN b p0 128).2.2.1, .int .i64 (longN b p0 128).2.2.2]]) ∧ Kept NB w w' := by
  have X0 : Box4 ((((w.alloc (.cells #[.int .i64 p0.1, .int .i64 p0.2] 72)).alloc (.cells #[.int .i64 0, .int .i64 0] 72)).alloc (.cells #[.int .i64 0, .int .i64 0] 72)).alloc (.cells #[.int .i64 0, .int .i64 0] 72)) w.heap.size (0, 0) p0 (0, 0) := by
    refine ⟨?_, ?_, ?_, ?_⟩
    · exact ((Below.heap_alloc _ _ _ (by simp <;> omega)).trans (Below.heap_alloc _ _ _ (by simp <;> omega))).trans ((Below.heap_alloc _ _ _ (by simp)).trans (MapKept.heap_alloc w _).1)
    · refine ((Below.heap_alloc _ _ _ (by simp <;> omega)).trans (Below.heap_alloc _ _ _ (by simp))).trans ?_
      have := (MapKept.heap_alloc (w.alloc (.cells #[.int .i64 p0.1, .int .i64 p0.2] 72)) (.cells #[.int .i64 0, .int .i64 0] 72)).1
      rwa [World.size_alloc] at this
    · refine (Below.heap_alloc _ _ _ (by simp)).trans ?_
      have := (MapKept.heap_alloc ((w.alloc (.cells #[.int .i64 p0.1, .int .i64 p0.2] 72)).alloc (.cells #[.int .i64 0, .int .i64 0] 72)) (.cells #[.int .i64 0, .int .i64 0] 72)).1
      rwa [World.size_alloc, World.size_alloc] at this
    · have := (MapKept.heap_alloc (((w.alloc (.cells #[.int .i64 p0.1, .int .i64 p0.2] 72)).alloc (.cells #[.int .i64 0, .int .i64 0] 72)).alloc (.cells #[.int .i64 0, .int .i64 0] 72)) (.cells #[.int .i64 0, .int .i64 0] 72)).1
      rwa [World.size_alloc, World.size_alloc, World.size_alloc] at this
  have HX0 := Lib.hid X0
  have HK0 := Lib.hid (((((Kept.refl NB w).alloc (.cells #[.int .i64 p0.1, .int .i64 p0.2] 72)).alloc (.cells #[.int .i64 0, .int .i64 0] 72)).alloc (.cells #[.int .i64 0, .int .i64 0] 72)).alloc (.cells #[.int .i64 0, .int .i64 0] 72))
  have HL0 := Lib.hid (show longN b p0 0 = ((0, 0), p0, (0, 0)) from rfl)
  clear X0
  go_enter Try.func70, Try.ntmps70
  go_wp2_with fail
  go_loopw [8] (fun i wr => ∃ k : Nat, k ≤ 128 ∧ i = .int .i64 k ∧ Box4 wr w.heap.size (longN b p0 k).1 (longN b p0 k).2.1 (longN b p0 k).2.2 ∧ Kept NB w wr) (fun i _ => 128 - (intOf i).toNat)
  case atStart => exact ⟨0, by omega, rfl, HX0.out, HK0.out⟩
  case round =>
    obtain ⟨k, hk, rfl, X1, K0⟩ := hrel
    obtain ⟨⟨⟨l1, l2⟩, ⟨p1, p2⟩, ⟨q1, q2⟩⟩, hs⟩ : ∃ s, s = longN b p0 k := ⟨_, rfl⟩
    by_cases hlt : k < 128
    · have HN := Lib.hid (show longN b p0 (k + 1) = longStep b (longN b p0 k) from rfl)
      rw [← hs] at X1 HN
      have HB := Lib.hid X1
      have HK := Lib.hid K0
      have HS := Lib.hid hs
      clear X1 K0 hs
      by_cases hneg : p2 < 0
      · obtain ⟨⟨a1, a2⟩, ha⟩ : ∃ r, r = pAdd (l1, l2) (l1, l2) := ⟨_, rfl⟩
        obtain ⟨⟨d1, d2⟩, hd⟩ : ∃ r, r = pAdd (p1, p2) (p1, p2) := ⟨_, rfl⟩
        obtain ⟨⟨f1, f2⟩, hf⟩ : ∃ r, r = pAdd (q1, q2) (q1, q2) := ⟨_, rfl⟩
        have T1 := Lib.hid (twice_any (l1, l2))
        have T2 := Lib.hid (twice_any (p1, p2))
        have T3 := Lib.hid (twice_any (q1, q2))
        rw [← ha] at T1
        rw [← hd] at T2
        rw [← hf] at T3
        dsimp only at T1 T2 T3
        obtain ⟨⟨c1, c2⟩, hc⟩ : ∃ r, r = pAdd (a1, a2) (1, 0) := ⟨_, rfl⟩
        have T4 := Lib.hid (add_any (a1, a2) (1, 0))
        rw [← hc] at T4
        dsimp only at T4
        have T5 := Lib.hid (less_any (c1, c2) (b, 0))
        dsimp only at T5
        cases hle : pLess (c1, c2) (b, 0) with
        | true =>
          rw [hle] at T5
          obtain ⟨⟨cp0, cp1⟩, ⟨cl0, cl1⟩, ⟨cq0, cq1⟩⟩ := HB.out.cells
          go_wp2_with fail
          refine (T1.out _).mono ?_
          rintro e w1 ⟨rfl, K⟩
          have HY := Lib.hid (HB.out.keep K)
          obtain ⟨y1, y2, y3, y4⟩ := pair_store HY.out.hl (.int .i64 a1) (.int .i64 a2)
          replace HK := Lib.hid ((HK.out.trans K).two (g := w.heap.size + 1 + 1) (by omega) (.int .i64 a1) (.int .i64 a2))
          replace HB := Lib.hid (HY.out.setL a1 a2)
          clear HY K
          clear cp0 cp1 cl0 cl1 cq0 cq1
          obtain ⟨⟨cp0, cp1⟩, ⟨cl0, cl1⟩, ⟨cq0, cq1⟩⟩ := HB.out.cells
          go_wp2_with fail
          refine (T4.out _).mono ?_
          rintro e w2 ⟨rfl, K⟩
          have HY := Lib.hid (HB.out.keep K)
          obtain ⟨y1, y2, y3, y4⟩ := pair_store HY.out.hl (.int .i64 c1) (.int .i64 c2)
          replace HK := Lib.hid ((HK.out.trans K).two (g := w.heap.size + 1 + 1) (by omega) (.int .i64 c1) (.int .i64 c2))
          replace HB := Lib.hid (HY.out.setL c1 c2)
          clear HY K
          clear cp0 cp1 cl0 cl1 cq0 cq1
          obtain ⟨⟨cp0, cp1⟩, ⟨cl0, cl1⟩, ⟨cq0, cq1⟩⟩ := HB.out.cells
          go_wp2_with fail
          refine (T2.out _).mono ?_
          rintro e w3 ⟨rfl, K⟩
          have HY := Lib.hid (HB.out.keep K)
          obtain ⟨y1, y2, y3, y4⟩ := pair_store HY.out.hp (.int .i64 d1) (.int .i64 d2)
          replace HK := Lib.hid ((HK.out.trans K).two (g := w.heap.size) (by omega) (.int .i64 d1) (.int .i64 d2))
          replace HB := Lib.hid (HY.out.setP d1 d2)
          clear HY K
          clear cp0 cp1 cl0 cl1 cq0 cq1
          obtain ⟨⟨cp0, cp1⟩, ⟨cl0, cl1⟩, ⟨cq0, cq1⟩⟩ := HB.out.cells
          go_wp2_with fail
          refine (T3.out _).mono ?_
          rintro e w4 ⟨rfl, K⟩
          have HY := Lib.hid (HB.out.keep K)
          obtain ⟨y1, y2, y3, y4⟩ := pair_store HY.out.hq (.int .i64 f1) (.int .i64 f2)
          replace HK := Lib.hid ((HK.out.trans K).two (g := w.heap.size + 1 + 1 + 1) (by omega) (.int .i64 f1) (.int .i64 f2))
          replace HB := Lib.hid (HY.out.setQ f1 f2)
          clear HY K
          clear cp0 cp1 cl0 cl1 cq0 cq1
          obtain ⟨⟨cp0, cp1⟩, ⟨cl0, cl1⟩, ⟨cq0, cq1⟩⟩ := HB.out.cells
          go_wp2_with fail
          refine (T5.out _).mono ?_
          rintro e w5 ⟨rfl, K⟩
          replace HK := Lib.hid (HK.out.trans K)
          replace HB := Lib.hid (HB.out.keep K)
          clear K cp0 cp1 cl0 cl1 cq0 cq1
          obtain ⟨⟨cp0, cp1⟩, ⟨cl0, cl1⟩, ⟨cq0, cq1⟩⟩ := HB.out.cells
          go_wp2_with fail
          go_roundw
          case rel => exact ⟨k + 1, by omega, by go_num, by rw [HN.out]; simp only [longStep, if_pos hneg, ← ha, ← hd, ← hf, ← hc, hle, if_true]; exact HB.out, HK.out⟩
          case measure => simp [intOf]; omega
        | false =>
          rw [hle] at T5
          obtain ⟨⟨cp0, cp1⟩, ⟨cl0, cl1⟩, ⟨cq0, cq1⟩⟩ := HB.out.cells
          go_wp2_with fail
          refine (T1.out _).mono ?_
          rintro e w1 ⟨rfl, K⟩
          have HY := Lib.hid (HB.out.keep K)
          obtain ⟨y1, y2, y3, y4⟩ := pair_store HY.out.hl (.int .i64 a1) (.int .i64 a2)
          replace HK := Lib.hid ((HK.out.trans K).two (g := w.heap.size + 1 + 1) (by omega) (.int .i64 a1) (.int .i64 a2))
          replace HB := Lib.hid (HY.out.setL a1 a2)
          clear HY K
          clear cp0 cp1 cl0 cl1 cq0 cq1
          obtain ⟨⟨cp0, cp1⟩, ⟨cl0, cl1⟩, ⟨cq0, cq1⟩⟩ := HB.out.cells
          go_wp2_with fail
          refine (T4.out _).mono ?_
          rintro e w2 ⟨rfl, K⟩
          have HY := Lib.hid (HB.out.keep K)
          obtain ⟨y1, y2, y3, y4⟩ := pair_store HY.out.hl (.int .i64 c1) (.int .i64 c2)
          replace HK := Lib.hid ((HK.out.trans K).two (g := w.heap.size + 1 + 1) (by omega) (.int .i64 c1) (.int .i64 c2))
          replace HB := Lib.hid (HY.out.setL c1 c2)
          clear HY K
          clear cp0 cp1 cl0 cl1 cq0 cq1
          obtain ⟨⟨cp0, cp1⟩, ⟨cl0, cl1⟩, ⟨cq0, cq1⟩⟩ := HB.out.cells
          go_wp2_with fail
          refine (T2.out _).mono ?_
          rintro e w3 ⟨rfl, K⟩
          have HY := Lib.hid (HB.out.keep K)
          obtain ⟨y1, y2, y3, y4⟩ := pair_store HY.out.hp (.int .i64 d1) (.int .i64 d2)
          replace HK := Lib.hid ((HK.out.trans K).two (g := w.heap.size) (by omega) (.int .i64 d1) (.int .i64 d2))
          replace HB := Lib.hid (HY.out.setP d1 d2)
          clear HY K
          clear cp0 cp1 cl0 cl1 cq0 cq1
          obtain ⟨⟨cp0, cp1⟩, ⟨cl0, cl1⟩, ⟨cq0, cq1⟩⟩ := HB.out.cells
          go_wp2_with fail
          refine (T3.out _).mono ?_
          rintro e w4 ⟨rfl, K⟩
          have HY := Lib.hid (HB.out.keep K)
          obtain ⟨y1, y2, y3, y4⟩ := pair_store HY.out.hq (.int .i64 f1) (.int .i64 f2)
          replace HK := Lib.hid ((HK.out.trans K).two (g := w.heap.size + 1 + 1 + 1) (by omega) (.int .i64 f1) (.int .i64 f2))
          replace HB := Lib.hid (HY.out.setQ f1 f2)
          clear HY K
          clear cp0 cp1 cl0 cl1 cq0 cq1
          obtain ⟨⟨cp0, cp1⟩, ⟨cl0, cl1⟩, ⟨cq0, cq1⟩⟩ := HB.out.cells
          go_wp2_with fail
          refine (T5.out _).mono ?_
          rintro e w5 ⟨rfl, K⟩
          replace HK := Lib.hid (HK.out.trans K)
          replace HB := Lib.hid (HB.out.keep K)
          clear K cp0 cp1 cl0 cl1 cq0 cq1
          obtain ⟨⟨cp0, cp1⟩, ⟨cl0, cl1⟩, ⟨cq0, cq1⟩⟩ := HB.out.cells
          obtain ⟨⟨g1, g2⟩, hg⟩ : ∃ r, r = pNeg (b, 0) := ⟨_, rfl⟩
          obtain ⟨⟨h1, h2⟩, hh⟩ : ∃ r, r = pAdd (c1, c2) (g1, g2) := ⟨_, rfl⟩
          obtain ⟨⟨m1, m2⟩, hm⟩ : ∃ r, r = pAdd (f1, f2) (1, 0) := ⟨_, rfl⟩
          have T6 := Lib.hid (neg_any (b, 0))
          have T7 := Lib.hid (add_any (c1, c2) (g1, g2))
          have T8 := Lib.hid (add_any (f1, f2) (1, 0))
          rw [← hg] at T6
          rw [← hh] at T7
          rw [← hm] at T8
          dsimp only at T6 T7 T8
          go_wp2_with fail
          replace HB := Lib.hid (HB.out.keep (Kept.refl NB _).drew)
          replace HK := Lib.hid HK.out.drew
          go_region_with (first
            | (go_at_call 59; refine (T6.out _).mono ?_; rintro e w8 ⟨rfl, K⟩
               replace HB := Lib.hid (HB.out.keep K)
               replace HK := Lib.hid (HK.out.trans K)
               clear K cp0 cp1 cl0 cl1 cq0 cq1
               obtain ⟨⟨cp0, cp1⟩, ⟨cl0, cl1⟩, ⟨cq0, cq1⟩⟩ := HB.out.cells)
            | (go_at_call 67; refine (T7.out _).mono ?_; rintro e w9 ⟨rfl, K⟩
               have HY := Lib.hid (HB.out.keep K)
               obtain ⟨y1, y2, y3, y4⟩ := pair_store HY.out.hl (.int .i64 h1) (.int .i64 h2)
               replace HK := Lib.hid ((HK.out.trans K).two (g := w.heap.size + 1 + 1) (by omega) (.int .i64 h1) (.int .i64 h2))
               replace HB := Lib.hid (HY.out.setL h1 h2)
               clear HY K
               clear cp0 cp1 cl0 cl1 cq0 cq1
               obtain ⟨⟨cp0, cp1⟩, ⟨cl0, cl1⟩, ⟨cq0, cq1⟩⟩ := HB.out.cells))
          all_goals (
            go_wp2_with fail
            refine (T8.out _).mono ?_
            rintro e w10 ⟨rfl, K⟩
            have HY := Lib.hid (HB.out.keep K)
            obtain ⟨y1, y2, y3, y4⟩ := pair_store HY.out.hq (.int .i64 m1) (.int .i64 m2)
            replace HK := Lib.hid ((HK.out.trans K).two (g := w.heap.size + 1 + 1 + 1) (by omega) (.int .i64 m1) (.int .i64 m2))
            replace HB := Lib.hid (HY.out.setQ m1 m2)
            clear HY K
            clear cp0 cp1 cl0 cl1 cq0 cq1
            obtain ⟨⟨cp0, cp1⟩, ⟨cl0, cl1⟩, ⟨cq0, cq1⟩⟩ := HB.out.cells
            go_wp2_with fail
            go_roundw
            case rel => exact ⟨k + 1, by omega, by go_num, by rw [HN.out]; simp only [longStep, if_pos hneg, ← ha, ← hd, ← hf, ← hc, ← hg, ← hh, ← hm, hle, if_false, Bool.false_eq_true]; exact HB.out, HK.out⟩
            case measure => simp [intOf]; omega)
      · obtain ⟨⟨a1, a2⟩, ha⟩ : ∃ r, r = pAdd (l1, l2) (l1, l2) := ⟨_, rfl⟩
        obtain ⟨⟨d1, d2⟩, hd⟩ : ∃ r, r = pAdd (p1, p2) (p1, p2) := ⟨_, rfl⟩
        obtain ⟨⟨f1, f2⟩, hf⟩ : ∃ r, r = pAdd (q1, q2) (q1, q2) := ⟨_, rfl⟩
        have T1 := Lib.hid (twice_any (l1, l2))
        have T2 := Lib.hid (twice_any (p1, p2))
        have T3 := Lib.hid (twice_any (q1, q2))
        rw [← ha] at T1
        rw [← hd] at T2
        rw [← hf] at T3
        dsimp only at T1 T2 T3
        have T5 := Lib.hid (less_any (a1, a2) (b, 0))
        dsimp only at T5
        cases hle : pLess (a1, a2) (b, 0) with
        | true =>
          rw [hle] at T5
          obtain ⟨⟨cp0, cp1⟩, ⟨cl0, cl1⟩, ⟨cq0, cq1⟩⟩ := HB.out.cells
          go_wp2_with fail
          refine (T1.out _).mono ?_
          rintro e w1 ⟨rfl, K⟩
          have HY := Lib.hid (HB.out.keep K)
          obtain ⟨y1, y2, y3, y4⟩ := pair_store HY.out.hl (.int .i64 a1) (.int .i64 a2)
          replace HK := Lib.hid ((HK.out.trans K).two (g := w.heap.size + 1 + 1) (by omega) (.int .i64 a1) (.int .i64 a2))
          replace HB := Lib.hid (HY.out.setL a1 a2)
          clear HY K
          clear cp0 cp1 cl0 cl1 cq0 cq1
          obtain ⟨⟨cp0, cp1⟩, ⟨cl0, cl1⟩, ⟨cq0, cq1⟩⟩ := HB.out.cells
          go_wp2_with fail
          refine (T2.out _).mono ?_
          rintro e w2 ⟨rfl, K⟩
          have HY := Lib.hid (HB.out.keep K)
          obtain ⟨y1, y2, y3, y4⟩ := pair_store HY.out.hp (.int .i64 d1) (.int .i64 d2)
          replace HK := Lib.hid ((HK.out.trans K).two (g := w.heap.size) (by omega) (.int .i64 d1) (.int .i64 d2))
          replace HB := Lib.hid (HY.out.setP d1 d2)
          clear HY K
          clear cp0 cp1 cl0 cl1 cq0 cq1
          obtain ⟨⟨cp0, cp1⟩, ⟨cl0, cl1⟩, ⟨cq0, cq1⟩⟩ := HB.out.cells
          go_wp2_with fail
          refine (T3.out _).mono ?_
          rintro e w3 ⟨rfl, K⟩
          have HY := Lib.hid (HB.out.keep K)
          obtain ⟨y1, y2, y3, y4⟩ := pair_store HY.out.hq (.int .i64 f1) (.int .i64 f2)
          replace HK := Lib.hid ((HK.out.trans K).two (g := w.heap.size + 1 + 1 + 1) (by omega) (.int .i64 f1) (.int .i64 f2))
          replace HB := Lib.hid (HY.out.setQ f1 f2)
          clear HY K
          clear cp0 cp1 cl0 cl1 cq0 cq1
          obtain ⟨⟨cp0, cp1⟩, ⟨cl0, cl1⟩, ⟨cq0, cq1⟩⟩ := HB.out.cells
          go_wp2_with fail
          refine (T5.out _).mono ?_
          rintro e w4 ⟨rfl, K⟩
          replace HK := Lib.hid (HK.out.trans K)
          replace HB := Lib.hid (HB.out.keep K)
          clear K cp0 cp1 cl0 cl1 cq0 cq1
          obtain ⟨⟨cp0, cp1⟩, ⟨cl0, cl1⟩, ⟨cq0, cq1⟩⟩ := HB.out.cells
          go_wp2_with fail
          go_roundw
          case rel => exact ⟨k + 1, by omega, by go_num, by rw [HN.out]; simp only [longStep, if_neg (show ¬ p2 < 0 by omega), ← ha, ← hd, ← hf, hle, if_true]; exact HB.out, HK.out⟩
          case measure => simp [intOf]; omega
        | false =>
          rw [hle] at T5
          obtain ⟨⟨cp0, cp1⟩, ⟨cl0, cl1⟩, ⟨cq0, cq1⟩⟩ := HB.out.cells
          go_wp2_with fail
          refine (T1.out _).mono ?_
          rintro e w1 ⟨rfl, K⟩
          have HY := Lib.hid (HB.out.keep K)
          obtain ⟨y1, y2, y3, y4⟩ := pair_store HY.out.hl (.int .i64 a1) (.int .i64 a2)
          replace HK := Lib.hid ((HK.out.trans K).two (g := w.heap.size + 1 + 1) (by omega) (.int .i64 a1) (.int .i64 a2))
          replace HB := Lib.hid (HY.out.setL a1 a2)
          clear HY K
          clear cp0 cp1 cl0 cl1 cq0 cq1
          obtain ⟨⟨cp0, cp1⟩, ⟨cl0, cl1⟩, ⟨cq0, cq1⟩⟩ := HB.out.cells
          go_wp2_with fail
          refine (T2.out _).mono ?_
          rintro e w2 ⟨rfl, K⟩
          have HY := Lib.hid (HB.out.keep K)
          obtain ⟨y1, y2, y3, y4⟩ := pair_store HY.out.hp (.int .i64 d1) (.int .i64 d2)
          replace HK := Lib.hid ((HK.out.trans K).two (g := w.heap.size) (by omega) (.int .i64 d1) (.int .i64 d2))
          replace HB := Lib.hid (HY.out.setP d1 d2)
          clear HY K
          clear cp0 cp1 cl0 cl1 cq0 cq1
          obtain ⟨⟨cp0, cp1⟩, ⟨cl0, cl1⟩, ⟨cq0, cq1⟩⟩ := HB.out.cells
          go_wp2_with fail
          refine (T3.out _).mono ?_
          rintro e w3 ⟨rfl, K⟩
          have HY := Lib.hid (HB.out.keep K)
          obtain ⟨y1, y2, y3, y4⟩ := pair_store HY.out.hq (.int .i64 f1) (.int .i64 f2)
          replace HK := Lib.hid ((HK.out.trans K).two (g := w.heap.size + 1 + 1 + 1) (by omega) (.int .i64 f1) (.int .i64 f2))
          replace HB := Lib.hid (HY.out.setQ f1 f2)
          clear HY K
          clear cp0 cp1 cl0 cl1 cq0 cq1
          obtain ⟨⟨cp0, cp1⟩, ⟨cl0, cl1⟩, ⟨cq0, cq1⟩⟩ := HB.out.cells
          go_wp2_with fail
          refine (T5.out _).mono ?_
          rintro e w4 ⟨rfl, K⟩
          replace HK := Lib.hid (HK.out.trans K)
          replace HB := Lib.hid (HB.out.keep K)
          clear K cp0 cp1 cl0 cl1 cq0 cq1
          obtain ⟨⟨cp0, cp1⟩, ⟨cl0, cl1⟩, ⟨cq0, cq1⟩⟩ := HB.out.cells
          obtain ⟨⟨g1, g2⟩, hg⟩ : ∃ r, r = pNeg (b, 0) := ⟨_, rfl⟩
          obtain ⟨⟨h1, h2⟩, hh⟩ : ∃ r, r = pAdd (a1, a2) (g1, g2) := ⟨_, rfl⟩
          obtain ⟨⟨m1, m2⟩, hm⟩ : ∃ r, r = pAdd (f1, f2) (1, 0) := ⟨_, rfl⟩
          have T6 := Lib.hid (neg_any (b, 0))
          have T7 := Lib.hid (add_any (a1, a2) (g1, g2))
          have T8 := Lib.hid (add_any (f1, f2) (1, 0))
          rw [← hg] at T6
          rw [← hh] at T7
          rw [← hm] at T8
          dsimp only at T6 T7 T8
          go_wp2_with fail
          replace HB := Lib.hid (HB.out.keep (Kept.refl NB _).drew)
          replace HK := Lib.hid HK.out.drew
          go_region_with (first
            | (go_at_call 59; refine (T6.out _).mono ?_; rintro e w8 ⟨rfl, K⟩
               replace HB := Lib.hid (HB.out.keep K)
               replace HK := Lib.hid (HK.out.trans K)
               clear K cp0 cp1 cl0 cl1 cq0 cq1
               obtain ⟨⟨cp0, cp1⟩, ⟨cl0, cl1⟩, ⟨cq0, cq1⟩⟩ := HB.out.cells)
            | (go_at_call 67; refine (T7.out _).mono ?_; rintro e w9 ⟨rfl, K⟩
               have HY := Lib.hid (HB.out.keep K)
               obtain ⟨y1, y2, y3, y4⟩ := pair_store HY.out.hl (.int .i64 h1) (.int .i64 h2)
               replace HK := Lib.hid ((HK.out.trans K).two (g := w.heap.size + 1 + 1) (by omega) (.int .i64 h1) (.int .i64 h2))
               replace HB := Lib.hid (HY.out.setL h1 h2)
               clear HY K
               clear cp0 cp1 cl0 cl1 cq0 cq1
               obtain ⟨⟨cp0, cp1⟩, ⟨cl0, cl1⟩, ⟨cq0, cq1⟩⟩ := HB.out.cells))
          all_goals (
            go_wp2_with fail
            refine (T8.out _).mono ?_
            rintro e w10 ⟨rfl, K⟩
            have HY := Lib.hid (HB.out.keep K)
            obtain ⟨y1, y2, y3, y4⟩ := pair_store HY.out.hq (.int .i64 m1) (.int .i64 m2)
            replace HK := Lib.hid ((HK.out.trans K).two (g := w.heap.size + 1 + 1 + 1) (by omega) (.int .i64 m1) (.int .i64 m2))
            replace HB := Lib.hid (HY.out.setQ m1 m2)
            clear HY K
            clear cp0 cp1 cl0 cl1 cq0 cq1
            obtain ⟨⟨cp0, cp1⟩, ⟨cl0, cl1⟩, ⟨cq0, cq1⟩⟩ := HB.out.cells
            go_wp2_with fail
            go_roundw
            case rel => exact ⟨k + 1, by omega, by go_num, by rw [HN.out]; simp only [longStep, if_neg (show ¬ p2 < 0 by omega), ← ha, ← hd, ← hf, ← hg, ← hh, ← hm, hle, if_false, Bool.false_eq_true]; exact HB.out, HK.out⟩
            case measure => simp [intOf]; omega)
    · obtain rfl : k = 128 := by omega
      rw [← hs] at X1
      have HB := Lib.hid X1
      have HK := Lib.hid K0
      obtain ⟨⟨cp0, cp1⟩, ⟨cl0, cl1⟩, ⟨cq0, cq1⟩⟩ := X1.cells
      obtain ⟨y1, y2, y3, y4⟩ := pair_store X1.hr (.int .i64 q1) (.int .i64 q2)
      clear X1 K0
      go_wp2_with fail
      go_still_tail 4, (by kernel_rfl)
      change wpList _ _ _ _ _ wr.drew
      have HBd := Lib.hid (HB.out.keep (Kept.refl NB wr).drew)
      have HKd := Lib.hid (HK.out.drew)
      obtain ⟨z1, z2, z3, z4⟩ := pair_store HBd.out.hr (.int .i64 q1) (.int .i64 q2)
      obtain ⟨_, _, _, _, _, z5, z6⟩ := box2_set HBd.out.hr (.int .i64 q1) (.int .i64 q2)
      clear y1 y2 y3 y4 cp0 cp1 cl0 cl1 cq0 cq1
      generalize wr.drew = wd at *
      go_wp2_with fail
      refine bodyPost_ret (v := .tuple #[.int .i64 l1, .agg #[.int .i64 q1, .int .i64 q2]]) (by simp [results, Try.results70, go_sem, z5, z6]) rfl ?_
      rw [← hs]
      exact ⟨rfl, HKd.out.two (by omega) _ _⟩
end Go.Proofs.Ytdpoobkfhmmbjaa
