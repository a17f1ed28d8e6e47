/- The walk of FlowLeaves. -/
import Derived.Test.YtdpoobkfhmmbjaaLeafP
import Derived.Deep.DeepCutAuto
namespace Go.Proofs.Ytdpoobkfhmmbjaa
open Go.RowKit
theorem cell_at0 {w : World} {r : Nat} {v : Value} {t : TypeId} (h : w.heap[r]? = some (.cells #[v] t (0, 0))) : w.cell? ⟨r, 0, none⟩ = some v := by rw [cell_block h]; rfl
set_option maxRecDepth 100000 in
set_option maxHeartbeats 16000000 in
theorem leaves_out (loops leaves : Int) (hlo : 0 ≤ loops ∧ loops < 256) (hle : 0 ≤ leaves ∧ leaves < 256) (w : World) :
    Calls Try.prog 4 #[.int .u8 loops, .int .u8 leaves, .bool false] w fun e w' => e = .returned (.bool true) ∧ Below w.heap.size w w' := by
  have HSH := Lib.hid (shown_any w)
  obtain ⟨n0, hn0⟩ : ∃ n0 : Nat, loops.tmod 10 = (n0 : Int) := ⟨(loops.tmod 10).toNat, by rw [Int.tmod_eq_emod_of_nonneg hlo.1]; omega⟩
  have hn10 : n0 < 10 := by rw [Int.tmod_eq_emod_of_nonneg hlo.1] at hn0; omega
  obtain ⟨k, hk⟩ : ∃ k : Nat, leaves.tmod 11 = (k : Int) := ⟨(leaves.tmod 11).toNat, by rw [Int.tmod_eq_emod_of_nonneg hle.1]; omega⟩
  have hk10 : k ≤ 10 := by rw [Int.tmod_eq_emod_of_nonneg hle.1] at hk; omega
  have hwn : IntKind.i64.wrap (n0 : Int) = (n0 : Int) := IntWalk.i64_in _ (by omega)
  have hwk : IntKind.i64.wrap (k : Int) = (k : Int) := IntWalk.i64_in _ (by omega)
  clear hlo hle
  go_enter Try.func4, Try.ntmps4
  try simp only [List.append]
  go_wp2_with fail
  refine HSH.out.mono ?_
  rintro e v1 ⟨rfl, K⟩
  have HK1 := Lib.hid (K.nb (S := FN w))
  have HN := Lib.hid (new_st (FN w) v1 (FN.all HK1.out))
  clear K
  go_wp2_with fail
  refine HN.out.mono ?_
  rintro e v2 ⟨pb, rfl, _, SB, K⟩
  have HSB := Lib.hid SB
  have HK2 := Lib.hid (HK1.out.trans K)
  clear SB K
  go_wp2_with fail
  clear hwn hwk hn0 hk
  obtain ⟨N, hN⟩ : ∃ N : Nat, N = n0 + 1 := ⟨_, rfl⟩
  have hNi : (n0 : Int) + 1 = (N : Int) := by omega
  rw [hNi]
  have hN10 : N ≤ 10 := by omega
  have hN0 : 0 < N := by omega
  clear hNi hn10 hN
  go_loopw [30] (fun v wr => ∃ i : Nat, i ≤ N ∧ v = .int .i64 i ∧ ∃ s : St, Okay s ∧ Lf1 i s ∧ BldS (FN w) wr pb s.1 s.2 ∧ Kept (FN w) w wr) (fun v _ => N - (intOf v).toNat)
  case atStart => exact ⟨0, by omega, rfl, ([], []), okay_nil, lf1_nil, HSB.out, HK2.out⟩
  case round =>
    clear HSB HK2 HN HK1 HSH
    obtain ⟨i, hi, rfl, s, hI, hL, SB, K⟩ := hrel
    have HSB1 := Lib.hid SB
    have HK := Lib.hid K
    have HOK := Lib.hid hI
    have HL := Lib.hid hL
    clear SB hI hL K
    by_cases hlt : i < N
    · have hst := lf1_do HL.out (by omega)
      have D := do_okay HSB1.out (FN.all HK.out) HOK.out 9
      rw [hst.1] at D
      have HD := Lib.hid D
      have HST := Lib.hid hst.2
      have HOK2 := Lib.hid (HOK.out.do 9)
      clear D hst
      go_wp2_with fail
      refine HD.out.mono ?_
      rintro e v3 ⟨rfl, SB, K⟩
      have HSB3 := Lib.hid SB
      have HK3 := Lib.hid (HK.out.trans K)
      clear SB K
      go_wp2_with fail
      first
        | (refine ⟨⟨i + 1, by omega, by go_num, _, HOK2.out, HST.out, HSB3.out, HK3.out⟩, ?_⟩; simp [intOf]; omega)
        | (go_roundw; case rel => exact ⟨i + 1, by omega, by go_num, _, HOK2.out, HST.out, HSB3.out, HK3.out⟩; case measure => (simp [intOf]; omega))
    · obtain rfl : i = N := by omega
      have HL2 := Lib.hid (lf2_first false HL.out hN0)
      go_wp2_with fail
      go_loopw [37] (fun v wr => ∃ t : Nat, t ≤ k ∧ v = .int .i64 t ∧ ∃ (s : St) (gs : List Int), Okay s ∧ Lf2 false i t s gs ∧ BldS (FN w) wr pb s.1 s.2 ∧ Kept (FN w) w wr) (fun v _ => k - (intOf v).toNat)
      case atStart => exact ⟨0, by omega, rfl, s, [], HOK.out, HL2.out, HSB1.out, HK.out⟩
      case round =>
        clear HL2 HL HSB1 HK HOK
        obtain ⟨t, ht, rfl, s, gs, hI, hL, SB, K⟩ := hrel
        have HSB1 := Lib.hid SB
        have HK := Lib.hid K
        have HOK := Lib.hid hI
        have HL := Lib.hid hL
        clear SB hI hL K
        by_cases htk : t < k
        · obtain ⟨ha, gs', hL2⟩ := lf2_leave HL.out (by omega) (by omega)
          have D := do_okay HSB1.out (FN.all HK.out) HOK.out 13
          rw [ha] at D
          have HD := Lib.hid D
          have HST := Lib.hid hL2
          have HOK2 := Lib.hid (HOK.out.do 13)
          clear D ha hL2
          go_wp2_with fail
          refine HD.out.mono ?_
          rintro e v3 ⟨rfl, SB, K⟩
          have HSB3 := Lib.hid SB
          have HK3 := Lib.hid (HK.out.trans K)
          clear SB K
          go_wp2_with fail
          first
            | (refine ⟨⟨t + 1, by omega, by go_num, _, gs', HOK2.out, HST.out, HSB3.out, HK3.out⟩, ?_⟩; simp [intOf]; omega)
            | (go_roundw; case rel => exact ⟨t + 1, by omega, by go_num, _, gs', HOK2.out, HST.out, HSB3.out, HK3.out⟩; case measure => (simp [intOf]; omega))
        · obtain rfl : t = k := by omega
          have hL3 := lf3_first HL.out hN0
          obtain ⟨e, he⟩ : ∃ e : Nat, e = i + t * eachB false := ⟨_, rfl⟩
          rw [← he] at hL3
          have hei : (i : Int) + (t : Int) = (e : Int) := by simp [eachB] at he; omega
          have he30 : e ≤ 30 := by simp [eachB] at he; omega
          have hie : i ≤ e := by omega
          have HL3 := Lib.hid hL3
          have HEI := Lib.hid hei
          clear hL3 he hei
          go_wp2_with fail
          go_loopw [66] (fun v wr => ∃ j : Nat, j ≤ i ∧ v = .int .i64 j ∧ ∃ s : St, Okay s ∧ Lf3 false i e j s ∧ BldS (FN w) wr pb s.1 s.2 ∧ Kept (FN w) w wr) (fun v _ => i - (intOf v).toNat)
          case atStart => exact ⟨0, by omega, rfl, s, HOK.out, HL3.out, HSB1.out, HK.out⟩
          case round =>
            clear HL3 HL HSB1 HK HOK
            obtain ⟨j, hj, rfl, s, hI, hL, SB, K⟩ := hrel
            have HSB1 := Lib.hid SB
            have HK := Lib.hid K
            have HOK := Lib.hid hI
            have HL := Lib.hid hL
            clear SB hI hL K
            by_cases hji : j < i
            · obtain ⟨ha, hL2⟩ := lf3_loop HL.out hji (by omega) (by omega)
              have D := do_okay HSB1.out (FN.all HK.out) HOK.out 11
              rw [ha] at D
              have HD := Lib.hid D
              have HST := Lib.hid hL2
              have HOK2 := Lib.hid (HOK.out.do 11)
              clear D ha hL2
              go_wp2_with fail
              refine HD.out.mono ?_
              rintro e v3 ⟨rfl, SB, K⟩
              have HSB3 := Lib.hid SB
              have HK3 := Lib.hid (HK.out.trans K)
              clear SB K
              go_wp2_with fail
              first
                | (refine ⟨⟨j + 1, by omega, by go_num, _, HOK2.out, HST.out, HSB3.out, HK3.out⟩, ?_⟩; simp [intOf]; omega)
                | (go_roundw; case rel => exact ⟨j + 1, by omega, by go_num, _, HOK2.out, HST.out, HSB3.out, HK3.out⟩; case measure => (simp [intOf]; omega))
            · obtain rfl : j = i := by omega
              obtain ⟨code, st⟩ := s
              obtain rfl : st = [] := by
                obtain ⟨gs, h, _⟩ := HL.out.st
                simpa using h
              have hcl : code.length ≤ 499 := HOK.out.wf.len
              have hE := end_st (code := code) HSB1.out (FN.all HK.out) (by omega)
              clear hcl
              have hlen : code.length = e + j := HL.out.len
              try dsimp only at hE
              rw [hlen] at hE
              have HE := Lib.hid hE
              have HLN := Lib.hid hlen
              have HMYC := Lib.hid (may_okay code HOK.out)
              clear hE hlen
              dsimp only at *
              go_wp2_with fail
              refine HE.out.mono ?_
              rintro e' t1 ⟨g, gc, rfl, hrow, _, _, K⟩
              obtain ⟨T, hT⟩ : ∃ T, t1.alloc (.cells #[.slice (some ⟨g, 0, none⟩) (e + j + 1) gc] 34) = T := ⟨_, rfl⟩
              have HROW := Lib.hid (show T.ownsRow 0 31 3 (.slice (some ⟨g, 0, none⟩) (e + j + 1) gc) (e + j + 1) (codeV (code ++ [(15, 0, 0)])) by rw [← hT]; exact owns_kept hrow ((Kept.refl (fun _ => False) t1).alloc _) (fun _ _ h => h))
              have HDB := Lib.hid (show T.heap[t1.heap.size]? = some (.cells #[.slice (some ⟨g, 0, none⟩) (e + j + 1) gc] 34 (0, 0)) by rw [← hT]; exact (MapKept.heap_alloc t1 _).1)
              have HKT := Lib.hid (show Kept (FN w) w T by rw [← hT]; exact (HK.out.trans K).alloc _)
              have dcell : T.cell? ⟨t1.heap.size, 0, none⟩ = some (.slice (some ⟨g, 0, none⟩) (e + j + 1) gc) := cell_at0 HDB.out
              have hmul := HEI.out
              clear K hrow
              go_wp2_with fail
              clear hmul dcell hT
              generalize hdb : t1.heap.size = db at *
              go_loopw [98] (fun v wr => ∃ p : Nat, p ≤ e + j + 1 ∧ v = .int .i64 p ∧ Kept NB T wr) (fun v _ => e + j + 1 - (intOf v).toNat)
              case atStart => exact ⟨0, by omega, rfl, Kept.refl _ _⟩
              case round =>
                obtain ⟨p, hp, rfl, K⟩ := hrel
                have HKP := Lib.hid K
                by_cases hpl : p < e + j + 1
                · obtain ⟨x, hx⟩ : ∃ x, (code ++ [((15 : Int), (0 : Int), (0 : Int))])[p]? = some x := ⟨_, List.getElem?_eq_getElem (by have := HLN.out; simp; omega)⟩
                  have hR := owns_kept HROW.out K (fun _ _ h => h)
                  obtain ⟨r0, r1, r2⟩ := codeV_get _ p x hx
                  obtain ⟨g', hg', i0, _⟩ := owns_cell hR r0
                  cases hg'
                  obtain ⟨g', hg', i1, _⟩ := owns_cell hR r1
                  cases hg'
                  obtain ⟨g', hg', i2, _⟩ := owns_cell hR r2
                  cases hg'
                  have hgs := get_snoc hx
                  have hpi : (p : Int) < (e : Int) + (j : Int) + 1 := by omega
                  clear hR r0 r1 r2 K hx
                  obtain ⟨op, A, W⟩ := x
                  dsimp only at *
                  rcases hgs with ⟨hpc, hx⟩ | ⟨hpc, hx⟩
                  · have hpc : p < e + j := by rw [← HLN.out]; exact hpc
                    have hop : op = if p < e then opL false j p else 7 := HL.out.ops p _ hx
                    have hlo : e ≤ p → A = (j : Int) - ((p : Int) - (e : Int)) := fun h => HL.out.lo p _ hx h
                    have hlv : op = 9 → A = (e : Int) + 1 := fun h => HL.out.lvs (by omega) p _ hx h
                    clear hx
                    by_cases hpe : p < e
                    · rw [if_pos hpe, opL] at hop
                      clear hlo
                      by_cases hpn : p < j
                      · rw [if_pos hpn] at hop
                        subst hop
                        have b1 : ¬ (j : Int) ≤ (p : Int) := by omega
                        have b2 : ¬ (e : Int) ≤ (p : Int) := by omega
                        clear hlv hpe hpn hpc
                        go_wp2_with fail
                        first
                          | (refine ⟨⟨p + 1, by omega, by go_num, HKP.out.alloc _⟩, ?_⟩; simp [intOf]; omega)
                          | (go_roundw; case rel => exact ⟨p + 1, by omega, by go_num, HKP.out.alloc _⟩; case measure => (simp [intOf]; omega))
                      · rw [if_neg hpn] at hop
                        have b1 : (j : Int) ≤ (p : Int) := by omega
                        have b2 : ¬ (e : Int) ≤ (p : Int) := by omega
                        have b3 : (p : Int) < (e : Int) := by omega
                        rw [if_pos (by simp [lvB])] at hop
                        subst hop
                        obtain rfl := hlv rfl
                        clear hlv hpe hpn hpc
                        go_wp2_with fail
                        first
                          | (refine ⟨⟨p + 1, by omega, by go_num, HKP.out.alloc _⟩, ?_⟩; simp [intOf]; omega)
                          | (go_roundw; case rel => exact ⟨p + 1, by omega, by go_num, HKP.out.alloc _⟩; case measure => (simp [intOf]; omega))
                    · rw [if_neg hpe] at hop
                      subst hop
                      obtain rfl := hlo (by omega)
                      have b1 : (j : Int) ≤ (p : Int) := by omega
                      have b2 : (e : Int) ≤ (p : Int) := by omega
                      have b3 : ¬ (p : Int) < (e : Int) := by omega
                      have b4 : (p : Int) < (e : Int) + (j : Int) := by omega
                      clear hlv hlo hpe hpc
                      go_wp2_with fail
                      first
                        | (refine ⟨⟨p + 1, by omega, by go_num, HKP.out.alloc _⟩, ?_⟩; simp [intOf]; omega)
                        | (go_roundw; case rel => exact ⟨p + 1, by omega, by go_num, HKP.out.alloc _⟩; case measure => (simp [intOf]; omega))
                  · cases hx
                    obtain rfl : p = e + j := by rw [← HLN.out]; exact hpc
                    have b1 : (j : Int) ≤ ((e + j : Nat) : Int) := by omega
                    have b2 : (e : Int) ≤ ((e + j : Nat) : Int) := by omega
                    have b3 : ¬ ((e + j : Nat) : Int) < (e : Int) := by omega
                    clear hpc
                    go_wp2_with fail
                    first
                      | (refine ⟨⟨e + j + 1, by omega, by go_num, HKP.out.alloc _⟩, ?_⟩; simp [intOf]; omega)
                      | (go_roundw; case rel => exact ⟨e + j + 1, by omega, by go_num, HKP.out.alloc _⟩; case measure => (simp [intOf]; omega))
                · obtain rfl : p = e + j + 1 := by omega
                  have dcell2 : wr.cell? ⟨db, 0, none⟩ = some (.slice (some ⟨g, 0, none⟩) (e + j + 1) gc) := cell_at0 ((K.block db (Array.getElem?_eq_some_iff.1 HDB.out).1 (fun h => h)).trans HDB.out)
                  have hrow3 := owns_kept HROW.out K (fun _ _ h => h)
                  rw [show e + j + 1 = code.length + 1 by rw [HLN.out]] at hrow3
                  have hM := HMYC.out _ wr hrow3
                  rw [HLN.out] at hM
                  have HM := Lib.hid hM
                  clear K hM hrow3
                  go_wp2_with fail
                  refine HM.out.mono ?_
                  rintro e2 t2 ⟨rfl, K⟩
                  have HKF := Lib.hid (HKT.out.trans (HKP.out.nb.trans K.nb))
                  clear K
                  go_wp2_with fail
                  all_goals (first | go_ret | skip)
                  all_goals exact ⟨rfl, HKF.out.fin⟩
set_option maxRecDepth 100000 in
set_option maxHeartbeats 16000000 in
theorem leaves_in (loops leaves : Int) (hlo : 0 ≤ loops ∧ loops < 256) (hle : 0 ≤ leaves ∧ leaves < 256) (w : World) :
    Calls Try.prog 4 #[.int .u8 loops, .int .u8 leaves, .bool true] w fun e w' => e = .returned (.bool true) ∧ Below w.heap.size w w' := by
  have HSH := Lib.hid (shown_any w)
  obtain ⟨n0, hn0⟩ : ∃ n0 : Nat, loops.tmod 10 = (n0 : Int) := ⟨(loops.tmod 10).toNat, by rw [Int.tmod_eq_emod_of_nonneg hlo.1]; omega⟩
  have hn10 : n0 < 10 := by rw [Int.tmod_eq_emod_of_nonneg hlo.1] at hn0; omega
  obtain ⟨k, hk⟩ : ∃ k : Nat, leaves.tmod 11 = (k : Int) := ⟨(leaves.tmod 11).toNat, by rw [Int.tmod_eq_emod_of_nonneg hle.1]; omega⟩
  have hk10 : k ≤ 10 := by rw [Int.tmod_eq_emod_of_nonneg hle.1] at hk; omega
  have hwn : IntKind.i64.wrap (n0 : Int) = (n0 : Int) := IntWalk.i64_in _ (by omega)
  have hwk : IntKind.i64.wrap (k : Int) = (k : Int) := IntWalk.i64_in _ (by omega)
  clear hlo hle
  go_enter Try.func4, Try.ntmps4
  try simp only [List.append]
  go_wp2_with fail
  refine HSH.out.mono ?_
  rintro e v1 ⟨rfl, K⟩
  have HK1 := Lib.hid (K.nb (S := FN w))
  have HN := Lib.hid (new_st (FN w) v1 (FN.all HK1.out))
  clear K
  go_wp2_with fail
  refine HN.out.mono ?_
  rintro e v2 ⟨pb, rfl, _, SB, K⟩
  have HSB := Lib.hid SB
  have HK2 := Lib.hid (HK1.out.trans K)
  clear SB K
  go_wp2_with fail
  clear hwn hwk hn0 hk
  obtain ⟨N, hN⟩ : ∃ N : Nat, N = n0 + 1 := ⟨_, rfl⟩
  have hNi : (n0 : Int) + 1 = (N : Int) := by omega
  rw [hNi]
  have hN10 : N ≤ 10 := by omega
  have hN0 : 0 < N := by omega
  clear hNi hn10 hN
  go_loopw [30] (fun v wr => ∃ i : Nat, i ≤ N ∧ v = .int .i64 i ∧ ∃ s : St, Okay s ∧ Lf1 i s ∧ BldS (FN w) wr pb s.1 s.2 ∧ Kept (FN w) w wr) (fun v _ => N - (intOf v).toNat)
  case atStart => exact ⟨0, by omega, rfl, ([], []), okay_nil, lf1_nil, HSB.out, HK2.out⟩
  case round =>
    clear HSB HK2 HN HK1 HSH
    obtain ⟨i, hi, rfl, s, hI, hL, SB, K⟩ := hrel
    have HSB1 := Lib.hid SB
    have HK := Lib.hid K
    have HOK := Lib.hid hI
    have HL := Lib.hid hL
    clear SB hI hL K
    by_cases hlt : i < N
    · have hst := lf1_do HL.out (by omega)
      have D := do_okay HSB1.out (FN.all HK.out) HOK.out 9
      rw [hst.1] at D
      have HD := Lib.hid D
      have HST := Lib.hid hst.2
      have HOK2 := Lib.hid (HOK.out.do 9)
      clear D hst
      go_wp2_with fail
      refine HD.out.mono ?_
      rintro e v3 ⟨rfl, SB, K⟩
      have HSB3 := Lib.hid SB
      have HK3 := Lib.hid (HK.out.trans K)
      clear SB K
      go_wp2_with fail
      first
        | (refine ⟨⟨i + 1, by omega, by go_num, _, HOK2.out, HST.out, HSB3.out, HK3.out⟩, ?_⟩; simp [intOf]; omega)
        | (go_roundw; case rel => exact ⟨i + 1, by omega, by go_num, _, HOK2.out, HST.out, HSB3.out, HK3.out⟩; case measure => (simp [intOf]; omega))
    · obtain rfl : i = N := by omega
      have HL2 := Lib.hid (lf2_first true HL.out hN0)
      go_wp2_with fail
      go_loopw [37] (fun v wr => ∃ t : Nat, t ≤ k ∧ v = .int .i64 t ∧ ∃ (s : St) (gs : List Int), Okay s ∧ Lf2 true i t s gs ∧ BldS (FN w) wr pb s.1 s.2 ∧ Kept (FN w) w wr) (fun v _ => k - (intOf v).toNat)
      case atStart => exact ⟨0, by omega, rfl, s, [], HOK.out, HL2.out, HSB1.out, HK.out⟩
      case round =>
        clear HL2 HL HSB1 HK HOK
        obtain ⟨t, ht, rfl, s, gs, hI, hL, SB, K⟩ := hrel
        have HSB1 := Lib.hid SB
        have HK := Lib.hid K
        have HOK := Lib.hid hI
        have HL := Lib.hid hL
        clear SB hI hL K
        by_cases htk : t < k
        · obtain ⟨ha, hb, hc, gs', hL2⟩ := lf2_within HL.out (by omega) hN0 (by omega)
          have HST := Lib.hid hL2
          have HOKa := Lib.hid (HOK.out.do 1)
          have HOKb := Lib.hid (HOKa.out.do 13)
          have HOKc := Lib.hid (HOKb.out.do 3)
          have HA := Lib.hid ha
          have HB := Lib.hid hb
          have HC := Lib.hid hc
          have D := do_okay HSB1.out (FN.all HK.out) HOK.out 1
          rw [ha] at D
          have HD := Lib.hid D
          clear D ha hb hc hL2
          go_wp2_with fail
          refine HD.out.mono ?_
          rintro e v3 ⟨rfl, SB, K⟩
          have HK3 := Lib.hid (HK.out.trans K)
          have D := do_okay SB (FN.all HK3.out) HOKa.out 13
          rw [HB.out] at D
          have HD2 := Lib.hid D
          clear D SB K
          go_wp2_with fail
          refine HD2.out.mono ?_
          rintro e v4 ⟨rfl, SB, K⟩
          have HK4 := Lib.hid (HK3.out.trans K)
          have D := do_okay SB (FN.all HK4.out) HOKb.out 3
          rw [HC.out] at D
          have HD3 := Lib.hid D
          clear D SB K
          go_wp2_with fail
          refine HD3.out.mono ?_
          rintro e v5 ⟨rfl, SB, K⟩
          have HSB5 := Lib.hid SB
          have HK5 := Lib.hid (HK4.out.trans K)
          clear SB K
          go_wp2_with fail
          first
            | (refine ⟨⟨t + 1, by omega, by go_num, _, gs', HOKc.out, HST.out, HSB5.out, HK5.out⟩, ?_⟩; simp [intOf]; omega)
            | (go_roundw; case rel => exact ⟨t + 1, by omega, by go_num, _, gs', HOKc.out, HST.out, HSB5.out, HK5.out⟩; case measure => (simp [intOf]; omega))
        · obtain rfl : t = k := by omega
          have hL3 := lf3_first HL.out hN0
          obtain ⟨e, he⟩ : ∃ e : Nat, e = i + t * eachB true := ⟨_, rfl⟩
          rw [← he] at hL3
          have hei : (i : Int) + (t : Int) * 2 = (e : Int) := by simp [eachB] at he; omega
          have he30 : e ≤ 30 := by simp [eachB] at he; omega
          have hie : i ≤ e := by omega
          have HL3 := Lib.hid hL3
          have HEI := Lib.hid hei
          clear hL3 he hei
          go_wp2_with fail
          go_loopw [66] (fun v wr => ∃ j : Nat, j ≤ i ∧ v = .int .i64 j ∧ ∃ s : St, Okay s ∧ Lf3 true i e j s ∧ BldS (FN w) wr pb s.1 s.2 ∧ Kept (FN w) w wr) (fun v _ => i - (intOf v).toNat)
          case atStart => exact ⟨0, by omega, rfl, s, HOK.out, HL3.out, HSB1.out, HK.out⟩
          case round =>
            clear HL3 HL HSB1 HK HOK
            obtain ⟨j, hj, rfl, s, hI, hL, SB, K⟩ := hrel
            have HSB1 := Lib.hid SB
            have HK := Lib.hid K
            have HOK := Lib.hid hI
            have HL := Lib.hid hL
            clear SB hI hL K
            by_cases hji : j < i
            · obtain ⟨ha, hL2⟩ := lf3_loop HL.out hji (by omega) (by omega)
              have D := do_okay HSB1.out (FN.all HK.out) HOK.out 11
              rw [ha] at D
              have HD := Lib.hid D
              have HST := Lib.hid hL2
              have HOK2 := Lib.hid (HOK.out.do 11)
              clear D ha hL2
              go_wp2_with fail
              refine HD.out.mono ?_
              rintro e v3 ⟨rfl, SB, K⟩
              have HSB3 := Lib.hid SB
              have HK3 := Lib.hid (HK.out.trans K)
              clear SB K
              go_wp2_with fail
              first
                | (refine ⟨⟨j + 1, by omega, by go_num, _, HOK2.out, HST.out, HSB3.out, HK3.out⟩, ?_⟩; simp [intOf]; omega)
                | (go_roundw; case rel => exact ⟨j + 1, by omega, by go_num, _, HOK2.out, HST.out, HSB3.out, HK3.out⟩; case measure => (simp [intOf]; omega))
            · obtain rfl : j = i := by omega
              obtain ⟨code, st⟩ := s
              obtain rfl : st = [] := by
                obtain ⟨gs, h, _⟩ := HL.out.st
                simpa using h
              have hcl : code.length ≤ 499 := HOK.out.wf.len
              have hE := end_st (code := code) HSB1.out (FN.all HK.out) (by omega)
              clear hcl
              have hlen : code.length = e + j := HL.out.len
              try dsimp only at hE
              rw [hlen] at hE
              have HE := Lib.hid hE
              have HLN := Lib.hid hlen
              have HMYC := Lib.hid (may_okay code HOK.out)
              clear hE hlen
              dsimp only at *
              go_wp2_with fail
              refine HE.out.mono ?_
              rintro e' t1 ⟨g, gc, rfl, hrow, _, _, K⟩
              obtain ⟨T, hT⟩ : ∃ T, t1.alloc (.cells #[.slice (some ⟨g, 0, none⟩) (e + j + 1) gc] 34) = T := ⟨_, rfl⟩
              have HROW := Lib.hid (show T.ownsRow 0 31 3 (.slice (some ⟨g, 0, none⟩) (e + j + 1) gc) (e + j + 1) (codeV (code ++ [(15, 0, 0)])) by rw [← hT]; exact owns_kept hrow ((Kept.refl (fun _ => False) t1).alloc _) (fun _ _ h => h))
              have HDB := Lib.hid (show T.heap[t1.heap.size]? = some (.cells #[.slice (some ⟨g, 0, none⟩) (e + j + 1) gc] 34 (0, 0)) by rw [← hT]; exact (MapKept.heap_alloc t1 _).1)
              have HKT := Lib.hid (show Kept (FN w) w T by rw [← hT]; exact (HK.out.trans K).alloc _)
              have dcell : T.cell? ⟨t1.heap.size, 0, none⟩ = some (.slice (some ⟨g, 0, none⟩) (e + j + 1) gc) := cell_at0 HDB.out
              have hmul := HEI.out
              clear K hrow
              go_wp2_with fail
              clear hmul dcell hT
              generalize hdb : t1.heap.size = db at *
              go_loopw [98] (fun v wr => ∃ p : Nat, p ≤ e + j + 1 ∧ v = .int .i64 p ∧ Kept NB T wr) (fun v _ => e + j + 1 - (intOf v).toNat)
              case atStart => exact ⟨0, by omega, rfl, Kept.refl _ _⟩
              case round =>
                obtain ⟨p, hp, rfl, K⟩ := hrel
                have HKP := Lib.hid K
                by_cases hpl : p < e + j + 1
                · obtain ⟨x, hx⟩ : ∃ x, (code ++ [((15 : Int), (0 : Int), (0 : Int))])[p]? = some x := ⟨_, List.getElem?_eq_getElem (by have := HLN.out; simp; omega)⟩
                  have hR := owns_kept HROW.out K (fun _ _ h => h)
                  obtain ⟨r0, r1, r2⟩ := codeV_get _ p x hx
                  obtain ⟨g', hg', i0, _⟩ := owns_cell hR r0
                  cases hg'
                  obtain ⟨g', hg', i1, _⟩ := owns_cell hR r1
                  cases hg'
                  obtain ⟨g', hg', i2, _⟩ := owns_cell hR r2
                  cases hg'
                  have hgs := get_snoc hx
                  have hpi : (p : Int) < (e : Int) + (j : Int) + 1 := by omega
                  clear hR r0 r1 r2 K hx
                  obtain ⟨op, A, W⟩ := x
                  dsimp only at *
                  rcases hgs with ⟨hpc, hx⟩ | ⟨hpc, hx⟩
                  · have hpc : p < e + j := by rw [← HLN.out]; exact hpc
                    have hop : op = if p < e then opL true j p else 7 := HL.out.ops p _ hx
                    have hlo : e ≤ p → A = (j : Int) - ((p : Int) - (e : Int)) := fun h => HL.out.lo p _ hx h
                    have hlv : op = 9 → A = (e : Int) + 1 := fun h => HL.out.lvs (by omega) p _ hx h
                    clear hx
                    by_cases hpe : p < e
                    · rw [if_pos hpe, opL] at hop
                      clear hlo
                      by_cases hpn : p < j
                      · rw [if_pos hpn] at hop
                        subst hop
                        have b1 : ¬ (j : Int) ≤ (p : Int) := by omega
                        have b2 : ¬ (e : Int) ≤ (p : Int) := by omega
                        clear hlv hpe hpn hpc
                        go_wp2_with fail
                        first
                          | (refine ⟨⟨p + 1, by omega, by go_num, HKP.out.alloc _⟩, ?_⟩; simp [intOf]; omega)
                          | (go_roundw; case rel => exact ⟨p + 1, by omega, by go_num, HKP.out.alloc _⟩; case measure => (simp [intOf]; omega))
                      · rw [if_neg hpn] at hop
                        have b1 : (j : Int) ≤ (p : Int) := by omega
                        have b2 : ¬ (e : Int) ≤ (p : Int) := by omega
                        have b3 : (p : Int) < (e : Int) := by omega
                        obtain ⟨q, hq⟩ : ∃ q : Nat, p - j = q := ⟨_, rfl⟩
                        have b4 : (p : Int) - (j : Int) = (q : Int) := by omega
                        have hq30 : q ≤ 30 := by omega
                        rw [lvB, hq] at hop
                        by_cases hq2 : q % 2 = 1
                        · rw [if_pos (by simp [hq2])] at hop
                          subst hop
                          obtain rfl := hlv rfl
                          have b5 : (((q : Nat) : Int) % 2 == 1) = true := by rw [beq_iff_eq]; omega
                          clear hlv hpe hpn hpc hq hq2
                          go_wp2_with fail
                          first
                            | (refine ⟨⟨p + 1, by omega, by go_num, HKP.out.alloc _⟩, ?_⟩; simp [intOf]; omega)
                            | (go_roundw; case rel => exact ⟨p + 1, by omega, by go_num, HKP.out.alloc _⟩; case measure => (simp [intOf]; omega))
                        · rw [if_neg (by simp [hq2])] at hop
                          subst hop
                          have b5 : (((q : Nat) : Int) % 2 == 1) = false := by rw [beq_eq_false_iff_ne]; omega
                          clear hlv hpe hpn hpc hq hq2
                          go_wp2_with fail
                          first
                            | (refine ⟨⟨p + 1, by omega, by go_num, HKP.out.alloc _⟩, ?_⟩; simp [intOf]; omega)
                            | (go_roundw; case rel => exact ⟨p + 1, by omega, by go_num, HKP.out.alloc _⟩; case measure => (simp [intOf]; omega))
                    · rw [if_neg hpe] at hop
                      subst hop
                      obtain rfl := hlo (by omega)
                      have b1 : (j : Int) ≤ (p : Int) := by omega
                      have b2 : (e : Int) ≤ (p : Int) := by omega
                      have b3 : ¬ (p : Int) < (e : Int) := by omega
                      have b4 : (p : Int) < (e : Int) + (j : Int) := by omega
                      clear hlv hlo hpe hpc
                      go_wp2_with fail
                      first
                        | (refine ⟨⟨p + 1, by omega, by go_num, HKP.out.alloc _⟩, ?_⟩; simp [intOf]; omega)
                        | (go_roundw; case rel => exact ⟨p + 1, by omega, by go_num, HKP.out.alloc _⟩; case measure => (simp [intOf]; omega))
                  · cases hx
                    obtain rfl : p = e + j := by rw [← HLN.out]; exact hpc
                    have b1 : (j : Int) ≤ ((e + j : Nat) : Int) := by omega
                    have b2 : (e : Int) ≤ ((e + j : Nat) : Int) := by omega
                    have b3 : ¬ ((e + j : Nat) : Int) < (e : Int) := by omega
                    clear hpc
                    go_wp2_with fail
                    first
                      | (refine ⟨⟨e + j + 1, by omega, by go_num, HKP.out.alloc _⟩, ?_⟩; simp [intOf]; omega)
                      | (go_roundw; case rel => exact ⟨e + j + 1, by omega, by go_num, HKP.out.alloc _⟩; case measure => (simp [intOf]; omega))
                · obtain rfl : p = e + j + 1 := by omega
                  have dcell2 : wr.cell? ⟨db, 0, none⟩ = some (.slice (some ⟨g, 0, none⟩) (e + j + 1) gc) := cell_at0 ((K.block db (Array.getElem?_eq_some_iff.1 HDB.out).1 (fun h => h)).trans HDB.out)
                  have hrow3 := owns_kept HROW.out K (fun _ _ h => h)
                  rw [show e + j + 1 = code.length + 1 by rw [HLN.out]] at hrow3
                  have hM := HMYC.out _ wr hrow3
                  rw [HLN.out] at hM
                  have HM := Lib.hid hM
                  clear K hM hrow3
                  go_wp2_with fail
                  refine HM.out.mono ?_
                  rintro e2 t2 ⟨rfl, K⟩
                  have HKF := Lib.hid (HKT.out.trans (HKP.out.nb.trans K.nb))
                  clear K
                  go_wp2_with fail
                  all_goals (first | go_ret | skip)
                  all_goals exact ⟨rfl, HKF.out.fin⟩
theorem walk_FlowLeaves (loops leaves : Int) (within : Bool) (w : World) (w0 : (Lit.int .u8 loops).wf = true) (w1 : (Lit.int .u8 leaves).wf = true) :
    Calls Try.prog 4 #[.int .u8 loops, .int .u8 leaves, .bool within] w fun e w' => e = .returned (.bool true) ∧ Below w.heap.size w w' := by
  have h0 : 0 ≤ loops ∧ loops < 256 := by simp [Lit.wf, IntKind.min, IntKind.max, IntKind.signed, IntKind.bits] at w0; omega
  have h1 : 0 ≤ leaves ∧ leaves < 256 := by simp [Lit.wf, IntKind.min, IntKind.max, IntKind.signed, IntKind.bits] at w1; omega
  cases within with
  | false => exact leaves_out loops leaves h0 h1 w
  | true => exact leaves_in loops leaves h0 h1 w
end Go.Proofs.Ytdpoobkfhmmbjaa
