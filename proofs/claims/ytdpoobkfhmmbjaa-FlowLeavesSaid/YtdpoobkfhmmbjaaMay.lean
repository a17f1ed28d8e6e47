/- The walk of rhytonref10.May, where the instructions have a static depth. -/
import Derived.Test.YtdpoobkfhmmbjaaLoops
import Derived.Test.YtdpoobkfhmmbjaaDepth
import Derived.Deep.DeepCutAuto
namespace Go.Proofs.Ytdpoobkfhmmbjaa
open Go.RowKit
open Go.MapKept (heap_alloc)
set_option maxRecDepth 100000 in
set_option maxHeartbeats 16000000 in
theorem may_any (code L : List I3) (hL : L = code ++ [(15, 0, 0)]) (d : Nat → Int) (hD : Dep L d) (h0 : d code.length = 0) (hok : ∀ x ∈ code, okI x) (dv : Value) (w : World) (hd : w.ownsRow 0 31 3 dv L.length (codeV L)) :
    Calls Try.prog 18 #[.agg #[dv], .int .i64 0] w fun e w' => e = .returned (.bool true) ∧ Kept NB w w' := by
  obtain ⟨a, c, rfl, g1, g2, g3⟩ := owns_slice hd
  have HDV := Lib.hid hd
  have HD := Lib.hid hD
  have HL := Lib.hid hL
  have HOK := Lib.hid hok
  have H0 := Lib.hid h0
  have hn0 := hD.len.1
  have hn5 := hD.len.2
  have HLast := Lib.hid (show L.length = code.length + 1 by rw [hL]; simp)
  obtain ⟨xl, hxl⟩ : ∃ x, L[L.length - 1]? = some x := ⟨_, List.getElem?_eq_getElem (by omega)⟩
  have hxe : xl = (15, 0, 0) := by
    rw [hL] at hxl
    simp at hxl
    exact hxl.symm
  subst hxe
  obtain ⟨r0, r1, r2⟩ := codeV_get L (L.length - 1) _ hxl
  obtain ⟨g, rfl, _⟩ := owns_cell hd r0
  have HR0 := Lib.hid r0
  have HXL := Lib.hid hxl
  have HX := Lib.hid (show (w.alloc (.cells #[.slice (some ⟨g, 0, none⟩) L.length c] 34)).heap[w.heap.size]? = some (.cells #[.slice (some ⟨g, 0, none⟩) L.length c] 34 (0, 0)) from (heap_alloc w _).1)
  have HK := Lib.hid ((Kept.refl NB w).alloc (.cells #[.slice (some ⟨g, 0, none⟩) L.length c] 34))
  have HLP := Lib.hid (loops_any L d hD (.slice (some ⟨g, 0, none⟩) L.length c))
  clear hd hD g3 hL hok h0 hxl r0 r1 r2
  generalize hnn : L.length = n at *
  go_enter Try.func18, Try.ntmps18
  try simp only [List.append]
  have hdv1 := owns_kept HDV.out HK.out (fun _ _ h => h)
  have e0 : ((n : Int) - 1).toNat = n - 1 := by omega
  have e1 : (0 : Int) ≤ (n : Int) - 1 := by omega
  have e2 : (n : Int) - 1 < n := by omega
  have e3 : ¬ (500 : Int) < n := by omega
  have hw1 : wrap64 ((n : Int) - 1) = (n : Int) - 1 := wrap64_in _ (by omega)
  go_wp2_with (first
    | (go_at_call 31; refine (HLP.out _ hdv1).mono ?_; rintro e w1 ⟨ob, out, rfl, hO, hLN, hF, hK1⟩
       have HO := Lib.hid hO
       have HLN := Lib.hid hLN
       have HF := Lib.hid hF
       have HK1 := Lib.hid (HK.out.trans hK1)
       have hX1 := (hK1.block _ (by simp) (fun h => h)).trans HX.out
       have HX1 := Lib.hid hX1
       have dbw : w1.cell? ⟨w.heap.size, 0, none⟩ = some (.slice (some ⟨g, 0, none⟩) n c) := by rw [cell_block hX1]; rfl
       have hR1 := owns_kept HDV.out HK1.out (fun _ _ h => h)
       obtain ⟨g', hg', i0, _⟩ := owns_cell hR1 HR0.out
       cases hg'
       clear hO hLN hF hK1 hX1 hR1))
  clear i0 dbw hdv1 e0 e1 e2 hw1
  go_loopw [10] (fun i wr => ∃ q : Nat, q ≤ n ∧ i = .int .i64 q ∧ OutIs wr ob out ∧ wr.heap[w.heap.size]? = some (.cells #[.slice (some ⟨g, 0, none⟩) n c] 34 (0, 0)) ∧ Kept NB w wr) (fun i _ => n - (intOf i).toNat)
  case atStart => exact ⟨0, by omega, rfl, HO.out, HX1.out, HK1.out⟩
  case round =>
    clear HO HX1 HK1
    obtain ⟨q, hq, rfl, hO, hX, hK⟩ := hrel
    have HO := Lib.hid hO
    have HX1 := Lib.hid hX
    have HK1 := Lib.hid hK
    by_cases hlt : q < n
    · obtain ⟨x, hx⟩ : ∃ x, L[q]? = some x := ⟨_, List.getElem?_eq_getElem (by omega)⟩
      obtain ⟨y, hy⟩ : ∃ y, out[q]? = some y := ⟨_, List.getElem?_eq_getElem (by have := HLN.out; omega)⟩
      obtain ⟨oc, of⟩ := hO.cell hy
      have HY := Lib.hid (HF.out q y hy)
      have hR := owns_kept HDV.out hK (fun _ _ h => h)
      obtain ⟨r0, r1, r2⟩ := codeV_get L q x hx
      obtain ⟨g', hg', i0, _⟩ := owns_cell hR r0
      cases hg'
      obtain ⟨g', hg', i1, _⟩ := owns_cell hR r1
      cases hg'
      obtain ⟨g', hg', i2, _⟩ := owns_cell hR r2
      cases hg'
      have dbw : wr.cell? ⟨w.heap.size, 0, none⟩ = some (.slice (some ⟨g, 0, none⟩) n c) := by rw [cell_block hX]; rfl
      have HROW := Lib.hid (show (wr.alloc (.cells #[.int .u8 x.1, .int .i64 x.2.1, .int .i64 x.2.2] 31)).heap[wr.heap.size]? = some (.cells #[.int .u8 x.1, .int .i64 x.2.1, .int .i64 x.2.2] 31 (0, 0)) from (heap_alloc wr _).1)
      have HREL := Lib.hid (fun (t : Int) (ht : t = (q : Int) + 1) => show ∃ q' : Nat, q' ≤ n ∧ Value.int .i64 t = .int .i64 q' ∧ OutIs (wr.alloc (.cells #[.int .u8 x.1, .int .i64 x.2.1, .int .i64 x.2.2] 31)) ob out ∧ (wr.alloc (.cells #[.int .u8 x.1, .int .i64 x.2.1, .int .i64 x.2.2] 31)).heap[w.heap.size]? = some (.cells #[.slice (some ⟨g, 0, none⟩) n c] 34 (0, 0)) ∧ Kept NB w (wr.alloc (.cells #[.int .u8 x.1, .int .i64 x.2.1, .int .i64 x.2.2] 31)) from
        ⟨q + 1, by omega, by rw [ht]; rfl, (Below.heap_alloc _ _ _ (Array.getElem?_eq_some_iff.1 HO.out).1).trans HO.out, (Below.heap_alloc _ _ _ (Array.getElem?_eq_some_iff.1 HX1.out).1).trans HX1.out, HK1.out.alloc _⟩)
      have HGO := Lib.hid (fun h W' => goes_any x.1 h W')
      by_cases hqe : q = n - 1
      · have hxe : x = (15, 0, 0) := by
          have := HXL.out
          rw [← hqe, hx] at this
          exact Option.some.inj this
        subst hxe
        have hd0 : d q = 0 := by rw [show q = code.length by have := HLast.out; omega]; exact H0.out
        have hy0 : ¬ (0 : Int) < y := by rcases HY.out with h | h <;> omega
        have hlto : ob < wr.heap.size := (Array.getElem?_eq_some_iff.1 hO).1
        have hneo : ¬ ob = wr.heap.size := by omega
        have oc2 : (wr.alloc (.cells #[.int .u8 15, .int .i64 0, .int .i64 0] 31)).cell? ⟨ob, q, none⟩ = some (.int .i64 y) := by
          rw [← oc]
          exact World.cell?_of_block (a := ⟨ob, q, none⟩) (Below.heap_alloc _ _ _ hlto)
        clear hO hX hK hR r0 r1 r2 hx hy HGO hd0
        have e1 : ((q : Int) == (n : Int) - 1) = true := by simp; omega
        have hw1 : wrap64 ((n : Int) - 1) = (n : Int) - 1 := wrap64_in _ (by omega)
        clear hqe
        dsimp only at *
        go_wp2_with fail
        go_roundw
        case rel => exact HREL.out _ (by go_num)
        case measure => simp [intOf]; omega
      · have hxo : okI x := HOK.out x (by
          have := HLast.out
          have hx' := hx
          rw [HL.out, List.getElem?_append_left (by omega)] at hx'
          exact List.mem_of_getElem? hx')
        obtain ⟨k1, k2, k3⟩ := hxo
        have HXG := Lib.hid (HD.out.goo q x hx)
        clear hO hX hK hR r0 r1 r2 hx hy hqe
        obtain ⟨op, A, W⟩ := x
        dsimp only at *
        have HG := Lib.hid (HGO.out (by omega))
        by_cases h1 : op = 1
        · subst h1
          have hA : A = 0 := by rcases k3 with h | h; cases h; exact h
          subst hA
          clear k1 k2 k3
          cases hw : (W != 0) with
          | true =>
            go_wp2_with (first
              | (go_at_call 32; refine (HG.out _).mono ?_; rintro e v1 ⟨rfl, rfl⟩))
            go_roundw
            case rel => exact HREL.out _ (by go_num)
            case measure => simp [intOf]; omega
          | false =>
            go_wp2_with (first
              | (go_at_call 32; refine (HG.out _).mono ?_; rintro e v1 ⟨rfl, rfl⟩))
            go_roundw
            case rel => exact HREL.out _ (by go_num)
            case measure => simp [intOf]; omega
        · have hW : W = 0 := by rcases k2 with h | h; exact absurd h h1; exact h
          subst hW
          have hop : 3 ≤ op ∧ op ≤ 11 := by rcases k1 with h | h; exact absurd h h1; exact h
          have b1 : ¬ op < 1 := by omega
          have b2 : ¬ (16 : Int) ≤ op := by omega
          have b3 : (op == 2) = false := by simp; omega
          have b4 : (op == 12) = false := by simp; omega
          have b5 : (op == 13) = false := by simp; omega
          have b6 : (op == 14) = false := by simp; omega
          have b7 : (op == 15) = false := by simp; omega
          clear k1 k2 h1 hop
          cases hgo : goesB op with
          | true =>
            obtain ⟨j1, j2, j3⟩ := HXG.out hgo
            rw [hgo] at HG
            have b8 : ¬ A < 0 := by omega
            have b9 : ¬ (n : Int) ≤ A := by omega
            clear j1 j2 j3 k3
            go_wp2_with (first
              | (go_at_call 32; refine (HG.out _).mono ?_; rintro e v1 ⟨rfl, rfl⟩))
            go_roundw
            case rel => exact HREL.out _ (by go_num)
            case measure => simp [intOf]; omega
          | false =>
            rw [hgo] at HG
            have hA : A = 0 := by rcases k3 with h | h; (rw [hgo] at h; cases h); exact h
            subst hA
            clear k3
            go_wp2_with (first
              | (go_at_call 32; refine (HG.out _).mono ?_; rintro e v1 ⟨rfl, rfl⟩))
            go_roundw
            case rel => exact HREL.out _ (by go_num)
            case measure => simp [intOf]; omega
    · obtain rfl : q = n := by omega
      clear hO hX hK
      go_wp2_with fail
      go_ret
      exact ⟨rfl, HK1.out⟩
end Go.Proofs.Ytdpoobkfhmmbjaa
