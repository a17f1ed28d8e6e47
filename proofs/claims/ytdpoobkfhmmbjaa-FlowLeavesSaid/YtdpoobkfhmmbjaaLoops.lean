/- The walk of rhytonref10.Loops, where the instructions have a static depth. -/
import Derived.Test.YtdpoobkfhmmbjaaLoopsA
import Derived.Deep.QuietTactic
import Derived.BigQuiet
import Derived.Deep.DeepCutAuto
import Derived.StillTailTactics
namespace Go.Proofs.Ytdpoobkfhmmbjaa
open Go.RowKit
open Go.MapKept (heap_alloc)
set_option maxRecDepth 100000 in
set_option maxHeartbeats 16000000 in
theorem loops_any (L : List I3) (d : Nat → Int) (hD : Dep L d) (dv : Value) (w : World) (hd : w.ownsRow 0 31 3 dv L.length (codeV L)) :
    Calls Try.prog 31 #[.agg #[dv]] w fun e w' => ∃ ob out, e = .returned (.tuple #[.slice (some ⟨ob, 0, none⟩) L.length L.length, .bool true]) ∧ OutIs w' ob out ∧ out.length = L.length ∧ Fine d out ∧ Kept NB w w' := by
  obtain ⟨a, c, rfl, g1, g2, g3⟩ := owns_slice hd
  have HDV := Lib.hid hd
  have HD := Lib.hid hD
  have hn0 := hD.len.1
  have hn5 := hD.len.2
  have HX := Lib.hid (show (w.alloc (.cells #[.slice a L.length c] 34)).heap[w.heap.size]? = some (.cells #[.slice a L.length c] 34 (0, 0)) from (heap_alloc w _).1)
  have HK := Lib.hid ((Kept.refl NB w).alloc (.cells #[.slice a L.length c] 34))
  clear hd hD g3
  generalize hnn : L.length = n at *
  go_enter Try.func31, Try.ntmps31
  try simp only [List.append]
  have hmk := run_make_ints (w.alloc (.cells #[.slice a n c] 34)) n hn5
  rw [show (w.alloc (.cells #[.slice a n c] 34)).heap.size = w.heap.size + 1 by simp] at hmk
  have O0 := out_made (w.alloc (.cells #[.slice a n c] 34)) n
  rw [show (w.alloc (.cells #[.slice a n c] 34)).heap.size = w.heap.size + 1 by simp] at O0
  have HO0 := Lib.hid O0
  have HX0 := Lib.hid ((Below.heap_alloc (w.alloc (.cells #[.slice a n c] 34)) (.cells (zerosI n) 3) w.heap.size (by simp)).trans HX.out)
  have HK0 := Lib.hid (HK.out.alloc (.cells (zerosI n) 3))
  clear O0
  have hk0 : ((n : Int) == 0) = false := by simp; omega
  go_wp2_with fail
  clear hmk hk0
  go_loopw [6] (fun i wr => ∃ k : Nat, k ≤ n ∧ i = .int .i64 k ∧ OutIs wr (w.heap.size + 1) (List.replicate k (-1) ++ List.replicate (n - k) 0) ∧ wr.heap[w.heap.size]? = some (.cells #[.slice a n c] 34 (0, 0)) ∧ Kept NB w wr) (fun i _ => n - (intOf i).toNat)
  case atStart => exact ⟨0, by omega, rfl, HO0.out, HX0.out, HK0.out⟩
  case round =>
    obtain ⟨k, hk, rfl, hO, hX, hK⟩ := hrel
    have HO := Lib.hid hO
    have HX1 := Lib.hid hX
    have HK1 := Lib.hid hK
    by_cases hlt : k < n
    · obtain ⟨o1, o2⟩ := hO.cell (minus_get n k hlt)
      clear hO hX hK
      go_wp2_with fail
      go_roundw
      case rel => exact ⟨k + 1, by omega, by go_num, by rw [← minus_step n k hlt]; exact HO.out.set k (-1), (Below.heap_setCell _ _ _ _ (by simp)).trans HX1.out, HK1.out.setCell (.inr (by simp)) _⟩
      case measure => simp [intOf]; omega
    · obtain rfl : k = n := by omega
      have hm0 : (List.replicate k (-1 : Int) ++ List.replicate (k - k) 0)[0]? = some (-1) := by
        rw [List.getElem?_append_left (by rw [List.length_replicate]; omega), List.getElem?_replicate, if_pos (by omega)]
      obtain ⟨o1, o2⟩ := hO.cell hm0
      have HO1 := Lib.hid (hO.set 0 0)
      have HX2 := Lib.hid ((Below.heap_setCell wr ⟨w.heap.size + 1, 0, none⟩ (.int .i64 0) w.heap.size (by simp)).trans hX)
      have HK2 := Lib.hid (hK.setCell (q := ⟨w.heap.size + 1, 0, none⟩) (.inr (by simp)) (.int .i64 0))
      clear hO hX hK HO HX1 HK1 hm0
      have HF1 := Lib.hid (fine_first d HD.out.zero k)
      have HLN := Lib.hid (show ((List.replicate k (-1 : Int) ++ List.replicate (k - k) 0).set 0 0).length = k by simp)
      generalize (List.replicate k (-1 : Int) ++ List.replicate (k - k) 0).set 0 0 = out1 at *
      go_wp2_with fail
      clear o1 o2
      go_loopw [7] (fun v wr => ∃ (b : Bool) (out : List Int), v = .bool b ∧ OutIs wr (w.heap.size + 1) out ∧ out.length = k ∧ Fine d out ∧ wr.heap[w.heap.size]? = some (.cells #[.slice a k c] 34 (0, 0)) ∧ Kept NB w wr) (fun v wr => 2 * cntW wr (w.heap.size + 1) + (match v with | .bool true => 1 | _ => 0))
      case atStart => exact ⟨true, out1, rfl, HO1.out, HLN.out, HF1.out, HX2.out, HK2.out⟩
      case round =>
        clear HO1 HX2 HK2 HF1 HLN
        obtain ⟨b, out, rfl, hO, hL, hF, hX, hK⟩ := hrel
        have HO := Lib.hid hO
        have HX1 := Lib.hid hX
        have HK1 := Lib.hid hK
        have HFN := Lib.hid hF
        have HLN := Lib.hid hL
        clear hO hX hK hF hL
        cases b with
        | false =>
          go_wp2_with fail
          go_ret2
          exact ⟨_, out, rfl, HO.out, HLN.out, HFN.out, HK1.out⟩
        | true =>
          go_wp2_with fail
          go_loopw [7, 8] (fun v i wr' => ∃ (b : Bool) (out' : List Int) (q : Nat), v = .bool b ∧ i = .int .i64 q ∧ q ≤ k ∧ OutIs wr' (w.heap.size + 1) out' ∧ out'.length = k ∧ Fine d out' ∧ (cnt out' ≤ cnt out ∧ (b = true → cnt out' < cnt out)) ∧ wr'.heap[w.heap.size]? = some (.cells #[.slice a k c] 34 (0, 0)) ∧ Kept NB w wr') (fun _ i _ => k - (intOf i).toNat)
          case atStart => exact ⟨false, out, 0, rfl, rfl, by omega, HO.out, HLN.out, HFN.out, ⟨Nat.le_refl _, by simp⟩, HX1.out, HK1.out⟩
          case round =>
            obtain ⟨b, out', q, rfl, rfl, hq, hO, hL, hF, hC, hX, hK⟩ := hrel
            have HO' := Lib.hid hO
            have HX' := Lib.hid hX
            have HK' := Lib.hid hK
            have HFN' := Lib.hid hF
            have HLN' := Lib.hid hL
            have HC' := Lib.hid hC
            by_cases hlt : q < k
            · obtain ⟨x, hx⟩ : ∃ x, L[q]? = some x := ⟨_, List.getElem?_eq_getElem (by omega)⟩
              obtain ⟨y, hy⟩ : ∃ y, out'[q]? = some y := ⟨_, List.getElem?_eq_getElem (by omega)⟩
              obtain ⟨oc, of⟩ := hO.cell hy
              rcases hF q y hy with rfl | rfl
              · clear hO hX hK hF hC
                go_wp2_with fail
                go_roundw
                case rel => exact ⟨b, out', q + 1, rfl, by go_num, by omega, HO'.out, HLN'.out, HFN'.out, HC'.out, HX'.out, HK'.out⟩
                case measure => simp [intOf]; omega
              · obtain ⟨p1, p2⟩ := HD.out.pos q (by omega)
                obtain ⟨t1, t2⟩ := HD.out.ops x (List.mem_of_getElem? hx)
                have hR := owns_kept HDV.out hK (fun _ _ h => h)
                obtain ⟨r0, r1, r2⟩ := codeV_get L q x hx
                obtain ⟨g, rfl, i0, _⟩ := owns_cell hR r0
                obtain ⟨g', hg', i1, _⟩ := owns_cell hR r1
                cases hg'
                obtain ⟨g', hg', i2, _⟩ := owns_cell hR r2
                cases hg'
                have dbw : wr.cell? ⟨w.heap.size, 0, none⟩ = some (.slice (some ⟨g, 0, none⟩) k c) := by rw [cell_block hX]; rfl
                have hdp : ¬ d q < 0 := by omega
                have HMO := Lib.hid (more_any x.1 ⟨t1, t2⟩)
                have HON := Lib.hid (on_any x.1)
                have HGO := Lib.hid (goes_any x.1 ⟨t1, t2⟩)
                have HXN := Lib.hid (HD.out.onn q x hx)
                have HXG := Lib.hid (HD.out.goo q x hx)
                clear hO hX hK hF hC hR r0 r1 r2
                obtain ⟨op, A, W⟩ := x
                dsimp only at *
                generalize hdq : d q = dq at *
                have hwa : wrap64 (dq + moreA op) = dq + moreA op := wrap64_in _ (by have := more_small op; omega)
                have hwb2 : wrap64 (dq + moreB op) = dq + moreB op := wrap64_in _ (by have := more_small op; omega)
                obtain ⟨wbs, hwbs⟩ : ∃ wbs, wbs = (wr.alloc (.cells #[.int .u8 op, .int .i64 A, .int .i64 W] 31)).heap.size := ⟨_, rfl⟩
                have HWBS := Lib.hid hwbs
                clear hwbs
                have hob := (Array.getElem?_eq_some_iff.1 HO'.out).1
                have HCR := Lib.hid (fun (W' : World) (K : Kept NB (wr.alloc (.cells #[.int .u8 op, .int .i64 A, .int .i64 W] 31)) W') => show W'.heap[w.heap.size + 1]? = wr.heap[w.heap.size + 1]? ∧ W'.heap[w.heap.size]? = wr.heap[w.heap.size]? ∧ W'.heap[wr.heap.size]? = some (.cells #[.int .u8 op, .int .i64 A, .int .i64 W] 31 (0, 0)) from
                  ⟨(K.block _ (by simp; omega) (fun h => h)).trans (Below.heap_alloc _ _ _ hob), (K.block _ (by simp; omega) (fun h => h)).trans (Below.heap_alloc _ _ _ (by omega)), (K.block _ (by simp) (fun h => h)).trans (heap_alloc wr _).1⟩)
                have HT0 := Lib.hid (Tos.nil (wr.alloc (.cells #[.int .u8 op, .int .i64 A, .int .i64 W] 31)) wbs k d)
                have HKW := Lib.hid (Kept.refl NB (wr.alloc (.cells #[.int .u8 op, .int .i64 A, .int .i64 W] 31)))
                go_upto_if 56 with (first
                  | (go_at_call 60; refine (HMO.out _).mono ?_; rintro e v1 ⟨rfl, rfl⟩)
                  | (go_at_call 61; refine (HON.out _).mono ?_; rintro e v1 ⟨rfl, rfl⟩))
                go_cut [12, 13] (fun s12 s13 wx => ∃ TL ML, Tos wx wbs k d s12 s13 TL ML ∧ TL.length ≤ 1 ∧ Kept NB (wr.alloc (.cells #[.int .u8 op, .int .i64 A, .int .i64 W] 31)) wx)
                case first =>
                  cases hon : onB op with
                  | false =>
                    go_wp2_with fail
                    go_meet
                    exact ⟨[], [], HT0.out, by decide, HKW.out⟩
                  | true =>
                    obtain ⟨n1, n2⟩ := HXN.out hon
                    go_wp2_with (first
                      | (at_builtin; refine app_to rfl _ _ rfl HT0.out (by decide) HKW.out HWBS.out ((q : Int) + 1) (n := 0) (n1 := 1) (H := wr.heap.size + 1) rfl rfl (by simp) rfl rfl ?_; intro ag ac wa aown mown mne aK
                         have KA := Lib.hid aK
                         have oc1 : wa.cell? ⟨w.heap.size + 1, q, none⟩ = some (.int .i64 dq) := (World.cell?_of_block (a := ⟨w.heap.size + 1, q, none⟩) (HCR.out wa KA.out).1).trans oc
                         have AO := Lib.hid aown
                         have MO := Lib.hid mown
                         have MN := Lib.hid mne
                         clear aown mown mne aK)
                      | (at_builtin; refine app_many rfl _ _ rfl HT0.out (by decide) HWBS.out ((q : Int) + 1) (dq + moreA op) (n := 0) (n1 := 1) rfl rfl AO.out MO.out MN.out KA.out ⟨by omega, by omega, by rw [show ((q : Int) + 1).toNat = q + 1 by omega, n2], by (have := HD.out.pos (q + 1) (by omega); rw [n2] at this; omega), by (have := HD.out.pos (q + 1) (by omega); rw [n2] at this; omega)⟩ rfl rfl ?_; intro bg bc wb bT bK
                         have KB := Lib.hid bK
                         have HT2 := Lib.hid bT
                         clear bT bK oc1 AO MO MN KA))
                    go_meet
                    exact ⟨_, _, HT2.out, by simp, KB.out⟩
                case rest =>
                  obtain ⟨TL, ML, hTc, HTL, hKc⟩ := hcut
                  have HTc := Lib.hid hTc
                  have HKc := Lib.hid hKc
                  have ob0 : wc.cell? ⟨wr.heap.size, 0, none⟩ = some (.int .u8 op) := by rw [cell_block (HCR.out wc hKc).2.2]; rfl
                  have ob1 : wc.cell? ⟨wr.heap.size, 1, none⟩ = some (.int .i64 A) := by rw [cell_block (HCR.out wc hKc).2.2]; rfl
                  have occ : wc.cell? ⟨w.heap.size + 1, q, none⟩ = some (.int .i64 dq) := (World.cell?_of_block (a := ⟨w.heap.size + 1, q, none⟩) (HCR.out wc hKc).1).trans oc
                  obtain ⟨a1, c1, rfl, _⟩ := owns_slice hTc.to
                  obtain ⟨a2, c2, rfl, _⟩ := owns_slice hTc.many
                  generalize hnT : TL.length = nT at *
                  have HNT := Lib.hid hnT
                  clear hTc hKc HT0 HKW hnT
                  go_upto_if 73 with (first
                    | (go_at_call 32; refine (HGO.out _).mono ?_; rintro e v1 ⟨rfl, rfl⟩))
                  go_cut [12, 13] (fun s12 s13 wx => ∃ TL ML, Tos wx wbs k d s12 s13 TL ML ∧ TL.length ≤ 2 ∧ Kept NB (wr.alloc (.cells #[.int .u8 op, .int .i64 A, .int .i64 W] 31)) wx)
                  case first =>
                    cases hgo : goesB op with
                    | false =>
                      go_wp2_with fail
                      go_meet
                      exact ⟨TL, ML, HTc.out, by rw [HNT.out]; omega, HKc.out⟩
                    | true =>
                      obtain ⟨n1, n2, n3⟩ := HXG.out hgo
                      go_wp2_with (first
                        | (at_builtin; refine app_to rfl _ _ rfl HTc.out (by rw [HNT.out]; omega) HKc.out HWBS.out A (n := nT) (n1 := nT + 1) (H := wc.heap.size) HNT.out.symm rfl rfl rfl rfl ?_; intro ag ac wa aown mown mne aK
                           have KA := Lib.hid aK
                           have oc1 : wa.cell? ⟨w.heap.size + 1, q, none⟩ = some (.int .i64 dq) := (World.cell?_of_block (a := ⟨w.heap.size + 1, q, none⟩) (HCR.out wa KA.out).1).trans oc
                           have AO := Lib.hid aown
                           have MO := Lib.hid mown
                           have MN := Lib.hid mne
                           clear aown mown mne aK)
                        | (at_builtin; refine app_many rfl _ _ rfl HTc.out (by rw [HNT.out]; omega) HWBS.out A (dq + moreB op) (n := nT) (n1 := nT + 1) HNT.out.symm rfl AO.out MO.out MN.out KA.out ⟨n1, by omega, n3.symm, by (have := HD.out.pos A.toNat (by omega); rw [n3] at this; omega), by (have := HD.out.pos A.toNat (by omega); rw [n3] at this; omega)⟩ rfl rfl ?_; intro bg bc wb bT bK
                           have KB := Lib.hid bK
                           have HT2 := Lib.hid bT
                           clear bT bK oc1 AO MO MN KA))
                      go_meet
                      exact ⟨_, _, HT2.out, by have := HNT.out; simp; omega, KB.out⟩
                  case rest =>
                    clear HTc HKc HNT ob0 ob1 occ
                    obtain ⟨TL, ML, hTc, HTL, hKc⟩ := hcut
                    have HO4 := Lib.hid (show OutIs wc (w.heap.size + 1) out' from (HCR.out wc hKc).1.trans HO'.out)
                    have HX4 := Lib.hid ((HCR.out wc hKc).2.1.trans HX'.out)
                    have HK4 := Lib.hid ((HK'.out.alloc _).trans hKc)
                    have HT4 := Lib.hid hTc
                    obtain ⟨a1, c1, rfl, _⟩ := owns_slice hTc.to
                    obtain ⟨a2, c2, rfl, _⟩ := owns_slice hTc.many
                    obtain ⟨nT, hnT⟩ : ∃ nT, nT = TL.length := ⟨_, rfl⟩
                    have HNT := Lib.hid hnT
                    have hnT2 : nT ≤ 2 := by rw [hnT]; exact HTL
                    have HLB := Lib.hid (show w.heap.size + 1 < wbs by rw [HWBS.out]; simp; omega)
                    rw [← hnT]
                    clear hTc hKc hnT
                    go_wp2_with fail
                    go_loopw [7, 14] (fun v t wr4 => ∃ (b4 : Bool) (out4 : List Int) (r : Nat), v = .bool b4 ∧ t = .int .i64 r ∧ r ≤ nT ∧ OutIs wr4 (w.heap.size + 1) out4 ∧ out4.length = k ∧ Fine d out4 ∧ (cnt out4 ≤ cnt out ∧ (b4 = true → cnt out4 < cnt out)) ∧ wr4.heap[w.heap.size]? = some (.cells #[.slice (some ⟨g, 0, none⟩) k c] 34 (0, 0)) ∧ Kept NB w wr4 ∧ Tos wr4 wbs k d (.slice a1 nT c1) (.slice a2 nT c2) TL ML) (fun _ t _ => nT - (intOf t).toNat)
                    case atStart => exact ⟨b, out', 0, rfl, rfl, by omega, HO4.out, HLN'.out, HFN'.out, HC'.out, HX4.out, HK4.out, by rw [HNT.out]; exact HT4.out⟩
                    case round =>
                      clear HO4 HX4 HK4 HT4 HO' HX' HK'
                      obtain ⟨b4, out4, r, rfl, rfl, hr, hO4, hL4, hF4, hC4, hX4, hK4, hT4⟩ := hrel
                      have HO4 := Lib.hid hO4
                      have HX4 := Lib.hid hX4
                      have HK4 := Lib.hid hK4
                      have HF4 := Lib.hid hF4
                      have HL4 := Lib.hid hL4
                      have HC4 := Lib.hid hC4
                      have HT4 := Lib.hid hT4
                      by_cases hrl : r < nT
                      · have HRL := Lib.hid hrl
                        have hlt1 : r < TL.length := by rw [← HNT.out]; exact hrl
                        obtain ⟨tt, htt⟩ : ∃ tt, TL[r]? = some tt := ⟨_, List.getElem?_eq_getElem hlt1⟩
                        obtain ⟨mm, hmm⟩ : ∃ mm, ML[r]? = some mm := ⟨_, List.getElem?_eq_getElem (by rw [hT4.len]; exact hlt1)⟩
                        obtain ⟨q1, q2, q3, q4, q5⟩ := hT4.good r tt mm htt hmm
                        obtain ⟨j, rfl⟩ := Int.eq_ofNat_of_zero_le q1
                        have hto := hT4.to
                        have hmany := hT4.many
                        rw [← HNT.out] at hto hmany
                        obtain ⟨ga, rfl, tc0, _⟩ := owns_cell hto (j := r) (u := .int .i64 (j : Int)) (by rw [List.getElem?_map, htt]; rfl)
                        obtain ⟨gb, rfl, mc0, _⟩ := owns_cell hmany (j := r) (u := .int .i64 mm) (by rw [List.getElem?_map, hmm]; rfl)
                        obtain ⟨z, hz⟩ : ∃ z, out4[j]? = some z := ⟨_, List.getElem?_eq_getElem (by omega)⟩
                        obtain ⟨zc, zf⟩ := hO4.cell hz
                        rw [Int.toNat_natCast] at q3
                        have hj1 : ¬ (j : Int) < 0 := by omega
                        have hj2 : ¬ (k : Int) ≤ (j : Int) := by omega
                        have hm1 : ¬ mm < 0 := by omega
                        have e1 : (0 : Int) ≤ (r : Int) := by omega
                        have e2 : ((r : Int)).toNat = r := by omega
                        have e3 : (0 : Int) ≤ (j : Int) := by omega
                        have e4 : (j : Int) < (k : Int) := by omega
                        have e5 : ((j : Int)).toNat = j := by omega
                        have e6 : (r : Int) < (nT : Int) := by omega
                        have b1 : decide ((j : Int) < 0) = false := decide_eq_false hj1
                        have b2 : decide ((k : Int) ≤ (j : Int)) = false := decide_eq_false hj2
                        have b3 : decide (mm < 0) = false := by simp; omega
                        have b2n : decide (k ≤ j) = false := by simp; omega
                        have hj2n : ¬ k ≤ j := by omega
                        rcases hF4 j z hz with rfl | hzd
                        · have HZ := Lib.hid hz
                          have HQ3 := Lib.hid q3
                          clear hO4 hX4 hK4 hF4 hC4 hT4 htt hmm hz q3 hto hmany hlt1
                          go_wp2_with fail
                          go_big_quiet (fail)
                          have HO5 := Lib.hid (show OutIs (wr.drewN nq) (w.heap.size + 1) out4 from HO4.out)
                          have HX5 := Lib.hid (show (wr.drewN nq).heap[w.heap.size]? = some (.cells #[.slice (some ⟨g, 0, none⟩) k c] 34 (0, 0)) from HX4.out)
                          have HK5 := Lib.hid (HK4.out.drewN nq)
                          have HT5 := Lib.hid (show Tos (wr.drewN nq) wbs k d (.slice (some ⟨ga, 0, none⟩) nT c1) (.slice (some ⟨gb, 0, none⟩) nT c2) TL ML from HT4.out.kept ((Kept.refl NB wr).drewN nq) (fun _ _ h => h))
                          have tc5 : (wr.drewN nq).cell? ⟨ga, r, none⟩ = some (.int .i64 (j : Int)) := tc0
                          have mc5 : (wr.drewN nq).cell? ⟨gb, r, none⟩ = some (.int .i64 mm) := mc0
                          have zc5 : (wr.drewN nq).cell? ⟨w.heap.size + 1, j, none⟩ = some (.int .i64 (-1)) := zc
                          have zf5 : (wr.drewN nq).frozen? ⟨w.heap.size + 1, j, none⟩ = false := zf
                          clear HO4 HX4 HK4 HT4 tc0 mc0 zc zf
                          generalize wr.drewN nq = w5 at *
                          go_wp2_with fail
                          go_still_tail 10, (by kernel_rfl)
                          change wpList _ _ _ _ _ w5.drew
                          have HO6 := Lib.hid (OutIs.set (show OutIs w5.drew (w.heap.size + 1) out4 from HO5.out) j mm)
                          have HX6 := Lib.hid ((Below.heap_setCell w5.drew ⟨w.heap.size + 1, j, none⟩ (.int .i64 mm) w.heap.size (by simp)).trans HX5.out)
                          have HK6 := Lib.hid (HK5.out.drew.setCell (q := ⟨w.heap.size + 1, j, none⟩) (.inr (by simp)) (.int .i64 mm))
                          have HT6 := Lib.hid ((HT5.out.kept ((Kept.refl NB w5).drew) (fun _ _ h => h)).set (q := ⟨w.heap.size + 1, j, none⟩) HLB.out (.int .i64 mm))
                          have zc6 : w5.drew.cell? ⟨w.heap.size + 1, j, none⟩ = some (.int .i64 (-1)) := zc5
                          have zf6 : w5.drew.frozen? ⟨w.heap.size + 1, j, none⟩ = false := zf5
                          clear HO5 HX5 HK5 HT5 tc5 mc5 zc5 zf5
                          generalize w5.drew = w6 at *
                          go_wp2_with fail
                          go_roundw
                          case rel =>
                            have hm2 : mm ≠ -1 := by omega
                            have hrl1 := HRL.out
                            have hcs := cnt_set out4 j mm HZ.out hm2
                            have hc4 := HC4.out.1
                            exact ⟨true, out4.set j mm, r + 1, rfl, by go_num, by omega, HO6.out, by rw [List.length_set]; exact HL4.out, by rw [HQ3.out]; exact fine_set HF4.out j, ⟨by omega, fun _ => by omega⟩, HX6.out, HK6.out, HT6.out⟩
                          case measure => have hrl1 := HRL.out; simp [intOf]; omega
                        · obtain rfl : z = mm := by rw [hzd, q3]
                          have b5 : decide ((0 : Int) ≤ z) = true := decide_eq_true q4
                          have b6 : (z != z) = false := by simp
                          clear hO4 hX4 hK4 hF4 hC4 hT4 htt hmm hz q3 hto hmany hlt1 hzd
                          go_wp2_with fail
                          go_big_quiet (fail)
                          have HO5 := Lib.hid (show OutIs (wr.drewN nq) (w.heap.size + 1) out4 from HO4.out)
                          have HX5 := Lib.hid (show (wr.drewN nq).heap[w.heap.size]? = some (.cells #[.slice (some ⟨g, 0, none⟩) k c] 34 (0, 0)) from HX4.out)
                          have HK5 := Lib.hid (HK4.out.drewN nq)
                          have HT5 := Lib.hid (show Tos (wr.drewN nq) wbs k d (.slice (some ⟨ga, 0, none⟩) nT c1) (.slice (some ⟨gb, 0, none⟩) nT c2) TL ML from HT4.out.kept ((Kept.refl NB wr).drewN nq) (fun _ _ h => h))
                          have tc5 : (wr.drewN nq).cell? ⟨ga, r, none⟩ = some (.int .i64 (j : Int)) := tc0
                          have zc5 : (wr.drewN nq).cell? ⟨w.heap.size + 1, j, none⟩ = some (.int .i64 z) := zc
                          clear HO4 HX4 HK4 HT4 tc0 mc0 zc zf
                          generalize wr.drewN nq = w5 at *
                          go_wp2_with fail
                          go_roundw
                          case rel => exact ⟨b4, out4, r + 1, rfl, by go_num, by have := HRL.out; omega, HO5.out, HL4.out, HF4.out, HC4.out, HX5.out, HK5.out, HT5.out⟩
                          case measure => have hrl1 := HRL.out; simp [intOf]; omega
                      · obtain rfl : r = nT := by omega
                        clear hO4 hX4 hK4 hF4 hC4 hT4
                        go_wp2_with fail
                        go_roundw
                        case rel => exact ⟨b4, out4, q + 1, rfl, by go_num, by omega, HO4.out, HL4.out, HF4.out, HC4.out, HX4.out, HK4.out⟩
                        case measure => simp [intOf]; omega
            · obtain rfl : q = k := by omega
              have HM1 := Lib.hid (cntW_out HO'.out)
              have HM2 := Lib.hid (cntW_out HO.out)
              clear hO hX hK hF hC
              go_wp2_with fail
              go_roundw
              case rel => exact ⟨b, out', rfl, HO'.out, HLN'.out, HFN'.out, HX'.out, HK'.out⟩
              case measure =>
                have h1 := HM1.out
                have h2 := HM2.out
                have h3 := HC'.out
                cases b with
                | true => simp only [h1, h2]; have := h3.2 rfl; omega
                | false => simp only [h1, h2]; have := h3.1; omega
end Go.Proofs.Ytdpoobkfhmmbjaa
