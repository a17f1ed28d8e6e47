/- The walk of FlowNests. -/
import Derived.Test.YtdpoobkfhmmbjaaNestP
import Derived.Deep.DeepCutAuto
namespace Go.Proofs.Ytdpoobkfhmmbjaa
open Go.RowKit
theorem sum_end {a b c d e f t : Nat} (h : a + b = c + d + t) (h2 : d + e = f) : a + (b + e) = c + (f + t) := by omega
theorem meas_up (i m : Nat) (h : i < m) : m - (intOf (.int .i64 ((i : Int) + 1))).toNat < m - (intOf (.int .i64 (i : Int))).toNat := by
  simp [intOf]; omega
set_option maxRecDepth 100000 in
set_option maxHeartbeats 16000000 in
theorem nests_some (x : Addr) (len0 cap0 : Nat) (zs : List Int) (many : Int) (hmany : 0 ≤ many ∧ many < 256) (w : World) (hlc : len0 ≤ cap0) (_hcm : cap0 ≤ maxLen) (hzl : zs.length = cap0) (hz : ∀ i, i < zs.length → w.cell? (x.add i) = some (.int .u8 (zs.getD i 0))) (hzb : ∀ n ∈ zs, 0 ≤ n ∧ n < 256) :
    Calls Try.prog 9 #[.slice (some x) len0 cap0, .int .u8 many] w fun e w' => e = .returned (.bool true) ∧ Below w.heap.size w w' := by
  have HSH := Lib.hid (shown_any w)
  obtain ⟨m, hm⟩ : ∃ m : Nat, m = min len0 15 := ⟨_, rfl⟩
  have hmin : (if (15 : Int) < (len0 : Int) then (15 : Int) else (len0 : Int)) = (m : Int) := by split <;> omega
  have hm30 : m ≤ 15 := by omega
  have hmc : m ≤ cap0 := by omega
  obtain ⟨kk, hkk⟩ : ∃ kk : Nat, many.tmod 4 = (kk : Int) := ⟨(many.tmod 4).toNat, by rw [Int.tmod_eq_emod_of_nonneg hmany.1]; omega⟩
  have hk4 : kk < 4 := by rw [Int.tmod_eq_emod_of_nonneg hmany.1] at hkk; omega
  have hwk : IntKind.i64.wrap (kk : Int) = (kk : Int) := IntWalk.i64_in _ (by omega)
  have HZ := Lib.hid hz
  have HZB := Lib.hid hzb
  have HZL := Lib.hid hzl
  clear hz hzb hzl hm hmany
  go_enter Try.func9, Try.ntmps9
  try simp only [List.append]
  go_wp2_with fail
  refine HSH.out.mono ?_
  rintro e v1 ⟨rfl, K⟩
  have HK1 := Lib.hid (K.nb (S := FN w))
  have HN := Lib.hid (new_st (FN w) v1 (FN.all HK1.out))
  clear K
  go_wp2_with fail
  refine HN.out.mono ?_
  rintro e v2 ⟨pb, rfl, _, SB, K⟩
  have HSB := Lib.hid SB
  have HK2 := Lib.hid (HK1.out.trans K)
  clear SB K
  go_wp2_with fail
  obtain ⟨b0, hb0⟩ : ∃ b0, b0 = v2.heap.size := ⟨_, rfl⟩
  rw [← hb0]
  change Code.wp _ _ _ _ (allocs v2 (rowsN b0))
  obtain ⟨V, hV⟩ : ∃ V, V = allocs v2 (rowsN b0) := ⟨_, rfl⟩
  rw [← hV]
  have hVs : V.heap.size = b0 + 9 := by rw [hV, allocs_size, hb0]; rfl
  have HRW := Lib.hid (show ∀ i o, (rowsN b0)[i]? = some o → V.heap[b0 + i]? = some o from fun i o h => by
    have := allocs_get (rowsN b0) v2 i o h
    rw [← hV, ← hb0] at this
    exact this)
  have HKV := Lib.hid (show Kept (FN w) w V by rw [hV]; exact allocs_kept _ HK2.out)
  have hv1 : w.heap.size ≤ v1.heap.size := HK1.out.size
  have HSV := Lib.hid (show BldS (fun r => FN w r ∧ (r < b0 ∨ b0 + 9 ≤ r)) V pb [] [] by
    rw [hV]
    exact (HSB.out.tight.mono (fun r hr => ⟨hr.1, .inl (by have := hr.2; omega)⟩)).kept (allocs_kept (S := fun _ => False) _ (Kept.refl _ v2)) (fun _ _ h => h))
  clear hV HSB HK2 HN HK1 hb0
  generalize hlb : b0 + 1 + 1 + 1 + 1 + 1 + 1 + 1 + 1 = lb
  generalize heb : b0 + 1 + 1 + 1 + 1 + 1 + 1 + 1 = eb
  generalize hrb : b0 + 1 + 1 + 1 + 1 + 1 + 1 = rb
  have hlb : lb = b0 + 8 := by omega
  have heb : eb = b0 + 7 := by omega
  have hrb : rb = b0 + 6 := by omega
  have HAT := Lib.hid (And.intro hlb (And.intro heb hrb))
  clear hlb heb hrb
  have HF := Lib.hid (show ∀ W, Kept (fun r => FN w r ∧ (r < b0 ∨ b0 + 9 ≤ r)) V W → ∀ r, W.heap.size ≤ r → FN w r ∧ (r < b0 ∨ b0 + 9 ≤ r) from fun W K r hr => ⟨FN.all HKV.out r (Nat.le_trans K.size hr), .inr (by have := K.size; omega)⟩)
  have HCE := Lib.hid (show ∀ W, Kept (fun r => FN w r ∧ (r < b0 ∨ b0 + 9 ≤ r)) V W → ∀ (a : Addr) v, V.cell? a = some v → b0 ≤ a.block → a.block < b0 + 9 → W.cell? a = some v from fun W K a v h h1 h2 => cell_far K a v h (fun h => by have := h.2; omega))
  clear hVs
  go_loopw [12, 43] (fun s12 s43 wr => ∃ i : Nat, i ≤ m ∧ s43 = .int .i64 i ∧ s12 = .int .i64 (wN zs kk i : Nat) ∧ ∃ s : St, Okay s ∧ kindsS s = ksN zs i ∧ s.1.length + eN zs i = wN zs kk i ∧ BldS (fun r => FN w r ∧ (r < b0 ∨ b0 + 9 ≤ r)) wr pb s.1 s.2 ∧ Kept (fun r => FN w r ∧ (r < b0 ∨ b0 + 9 ≤ r)) V wr) (fun _ s43 _ => m - (intOf s43).toNat)
  case atStart => exact ⟨0, by omega, rfl, rfl, ([], []), okay_nil, rfl, rfl, HSV.out, Kept.refl _ _⟩
  case round =>
    clear HSV
    obtain ⟨i, hi, rfl, rfl, s, hI, hks, hsl, SB, K⟩ := hrel
    have HSB1 := Lib.hid SB
    have HK := Lib.hid K
    have HOK := Lib.hid hI
    have HKS := Lib.hid hks
    have hwle := wN_le zs HZB.out kk hk4 i
    have HW75 := Lib.hid (show wN zs kk i ≤ 75 by omega)
    clear SB hI hks
    by_cases hlt : i < m
    · have hcb := cN_lt zs i HZB.out
      have hkz : i < zs.length := by have := HZL.out; omega
      have z0 := cell_far (HKV.out.trans (K.mono (T := FN w) (fun r h => h.1))).old _ _ (HZ.out i hkz) (fun h => h)
      obtain ⟨g1, g2, g3, g4, g5, g6, g7, g8⟩ := kP_all _ hcb.1
      have hbg : wr.cell? ⟨rb, cN zs i, none⟩ = some (.slice (some ⟨b0 + cN zs i, 0, none⟩) (nB (cN zs i)) (nB (cN zs i))) := by
        rw [HAT.out.2.2]
        exact HCE.out wr K _ _ (rows_beg HRW.out _ hcb.1) (by simp) (by simp)
      have HPA := Lib.hid (fun j hj => rows_part HRW.out (cN zs i) j hcb.1 hj)
      have HBS := Lib.hid (fun j hj s' h1 h2 h3 => beg_step (cN zs i) j hcb.1 hj s' (ksN zs i) h1 h2 h3)
      have HKL := Lib.hid (fun j hj => kP_len (cN zs i) j hcb.1 hj)
      have HWS := Lib.hid (show ksN zs (i + 1) = kindN (cN zs i) ++ ksN zs i ∧ wN zs kk (i + 1) = wN zs kk i + (layN (cN zs i) + kk) ∧ eN zs (i + 1) = eN zs i + endL (cN zs i) from ⟨rfl, rfl, rfl⟩)
      have hksl := ksN_len zs HZB.out i
      have HLY := Lib.hid (rows_end HRW.out (cN zs i) hcb.1).2
      have hc6 := hcb.1
      have hc6i : ((cN zs i : Nat) : Int) < 6 := by omega
      have hct := hcb.2
      have HALL := Lib.hid (And.intro g1 (And.intro g2 (And.intro g3 g4)))
      have HNB := Lib.hid g5
      clear K hcb g1 g2 g3 g4 g7 g8
      generalize hzz : zs.getD i 0 = z at *
      generalize hcc : cN zs i = c at *
      generalize hww : wN zs kk i = wi at *
      clear hzz
      go_wp2_with fail
      go_loopw [53] (fun v wr => ∃ j : Nat, j ≤ nB c ∧ v = .int .i64 j ∧ ∃ s : St, Okay s ∧ kindsS s = kP c j ++ ksN zs i ∧ s.1.length + eN zs i = wi + lP c j ∧ BldS (fun r => FN w r ∧ (r < b0 ∨ b0 + 9 ≤ r)) wr pb s.1 s.2 ∧ Kept (fun r => FN w r ∧ (r < b0 ∨ b0 + 9 ≤ r)) V wr) (fun v _ => nB c - (intOf v).toNat)
      case atStart => exact ⟨0, by omega, rfl, s, HOK.out, by rw [HALL.out.1]; exact HKS.out, by rw [HALL.out.2.1]; omega, HSB1.out, HK.out⟩
      case round =>
        clear HOK HKS HSB1 HK hsl
        obtain ⟨j, hj, rfl, s, hI, hks, hsl, SB, K⟩ := hrel
        have HSB1 := Lib.hid SB
        have HK := Lib.hid K
        have HOK := Lib.hid hI
        have HKS := Lib.hid hks
        have hkl := HKL.out j hj
        clear SB hI hks
        by_cases hjn : j < nB c
        · have hpa : wr.cell? ⟨b0 + c, j, none⟩ = some (.int .i64 ((begN c j : Nat) : Int)) := HCE.out wr K _ _ (HPA.out j hjn) (by simp) (by simp; omega)
          have hdl : s.2.length < 32 := by
            have := congrArg List.length HKS.out
            simp only [kindsS, List.length_map, List.length_append] at this
            omega
          have hst := HBS.out j hjn s HKS.out (by omega) hdl
          have D := do_okay HSB1.out (HF.out wr K) HOK.out ((begN c j : Nat) : Int)
          rw [hst.1] at D
          have HD := Lib.hid D
          have HST := Lib.hid hst
          have HOK2 := Lib.hid (HOK.out.do ((begN c j : Nat) : Int))
          clear D hst K hkl
          generalize ((begN c j : Nat) : Int) = bw at *
          go_wp2_with fail
          refine HD.out.mono ?_
          rintro e v3 ⟨rfl, SB, K⟩
          have HSB3 := Lib.hid SB
          have HK3 := Lib.hid (HK.out.trans K)
          clear SB K
          go_wp2_with fail
          first
            | (refine ⟨⟨j + 1, by omega, by go_num, _, HOK2.out, HST.out.2.1, by have := HST.out.2.2; omega, HSB3.out, HK3.out⟩, ?_⟩; simp [intOf]; omega)
            | (go_roundw; case rel => exact ⟨j + 1, by omega, by go_num, _, HOK2.out, HST.out.2.1, by have := HST.out.2.2; omega, HSB3.out, HK3.out⟩; case measure => simp [intOf]; omega)
        · obtain rfl : j = nB c := by omega
          have hks2 := HKS.out
          rw [HALL.out.2.2.1] at hks2
          have HKS2 := Lib.hid hks2
          have HALL4 := Lib.hid HALL.out.2.2.2
          clear hks2 HKS hjn hj hbg K
          generalize hlp : lP c (nB c) = lp at *
          go_wp2_with fail
          go_loopw [63] (fun v wr => ∃ t : Nat, t ≤ kk ∧ v = .int .i64 t ∧ ∃ s : St, Okay s ∧ kindsS s = kindN c ++ ksN zs i ∧ s.1.length + eN zs i = wi + lp + t ∧ BldS (fun r => FN w r ∧ (r < b0 ∨ b0 + 9 ≤ r)) wr pb s.1 s.2 ∧ Kept (fun r => FN w r ∧ (r < b0 ∨ b0 + 9 ≤ r)) V wr) (fun v _ => kk - (intOf v).toNat)
          case atStart => exact ⟨0, by omega, rfl, s, HOK.out, HKS2.out, by omega, HSB1.out, HK.out⟩
          case round =>
            clear HOK HKS2 HSB1 HK hsl
            obtain ⟨t, ht, rfl, s, hI, hks, hsl, SB, K⟩ := hrel
            have HSB1 := Lib.hid SB
            have HK := Lib.hid K
            have HOK := Lib.hid hI
            have HKS := Lib.hid hks
            clear SB hI hks
            by_cases htk : t < kk
            · have HP := Lib.hid (put_st HSB1.out (HF.out wr K) (11, 0, 0) (by omega))
              have HOK2 := Lib.hid (HOK.out.put (by omega) (11, 0, 0) (ok_op _ (by decide)) rfl rfl rfl)
              clear K
              go_wp2_with fail
              refine HP.out.mono ?_
              rintro e v3 ⟨rfl, SB, K⟩
              have HSB3 := Lib.hid SB
              have HK3 := Lib.hid (HK.out.trans K)
              clear SB K
              go_wp2_with fail
              first
                | (refine ⟨⟨t + 1, by omega, by go_num, _, HOK2.out, HKS.out, by simp; omega, HSB3.out, HK3.out⟩, ?_⟩; simp [intOf]; omega)
                | (go_roundw; case rel => exact ⟨t + 1, by omega, by go_num, _, HOK2.out, HKS.out, by simp; omega, HSB3.out, HK3.out⟩; case measure => simp [intOf]; omega)
            · obtain rfl : t = kk := by omega
              have hly : wr.cell? ⟨lb, c, none⟩ = some (.int .i64 ((layN c : Nat) : Int)) := by
                rw [HAT.out.1]
                exact HCE.out wr K _ _ HLY.out (by simp) (by simp)
              clear K
              generalize hlay : layN c = ly at *
              have hwi75 := HW75.out
              clear hwk hkk
              go_wp2_with fail
              refine ⟨⟨i + 1, Nat.succ_le_of_lt hlt, rfl, by rw [HWS.out.2.1]; rfl, s, HOK.out, by rw [HWS.out.1]; exact HKS.out, by rw [HWS.out.2.1, HWS.out.2.2]; exact sum_end hsl HALL4.out, HSB1.out, HK.out⟩, ?_⟩
              exact meas_up i m hlt
    · obtain rfl : i = m := by omega
      have HMC := Lib.hid hmc
      clear hmin K hmc
      have hwm : wrap64 ((i : Int) - 1) = (i : Int) - 1 := wrap64_in _ (by omega)
      generalize hwn : wN zs kk i = wn at *
      go_wp2_with fail
      clear hwm
      go_loopw [17] (fun v wr => ∃ (y : Int) (j : Nat), v = .int .i64 y ∧ y + 1 = j ∧ j ≤ i ∧ ∃ s : St, Okay s ∧ kindsS s = ksN zs j ∧ s.1.length + eN zs j = wn ∧ BldS (fun r => FN w r ∧ (r < b0 ∨ b0 + 9 ≤ r)) wr pb s.1 s.2 ∧ Kept (fun r => FN w r ∧ (r < b0 ∨ b0 + 9 ≤ r)) V wr) (fun v _ => (intOf v + 1).toNat)
      case atStart => exact ⟨(i : Int) - 1, i, rfl, by omega, by omega, s, HOK.out, HKS.out, hsl, HSB1.out, HK.out⟩
      case round =>
        clear HOK HKS HSB1 HK hsl
        obtain ⟨y, j, rfl, hy, hj, s, hI, hks, hsl, SB, K⟩ := hrel
        have HSB1 := Lib.hid SB
        have HK := Lib.hid K
        have HOK := Lib.hid hI
        have HKS := Lib.hid hks
        clear SB hI hks
        by_cases hj0 : 0 < j
        · obtain ⟨p, rfl⟩ : ∃ p, j = p + 1 := ⟨j - 1, by omega⟩
          obtain rfl : y = (p : Int) := by omega
          clear hy hj0
          have hcb := cN_lt zs p HZB.out
          have hkz : p < zs.length := by have := HZL.out; have := HMC.out; omega
          have z0 := cell_far (HKV.out.trans (K.mono (T := FN w) (fun r h => h.1))).old _ _ (HZ.out p hkz) (fun h => h)
          have hen : wr.cell? ⟨eb, cN zs p, none⟩ = some (.int .i64 ((endN (cN zs p) : Nat) : Int)) := by
            rw [HAT.out.2.1]
            exact HCE.out wr K _ _ (rows_end HRW.out _ hcb.1).1 (by simp) (by simp)
          have hst := end_step (cN zs p) hcb.1 s (ksN zs p) HKS.out (by omega)
          have D := do_okay HSB1.out (HF.out wr K) HOK.out ((endN (cN zs p) : Nat) : Int)
          rw [hst.1] at D
          have HD := Lib.hid D
          have HST := Lib.hid hst
          have HOK2 := Lib.hid (HOK.out.do ((endN (cN zs p) : Nat) : Int))
          have HES := Lib.hid (show eN zs (p + 1) = eN zs p + endL (cN zs p) from rfl)
          have hc6 := hcb.1
          have hc6i : ((cN zs p : Nat) : Int) < 6 := by omega
          have hct := hcb.2
          clear D hst K hcb
          generalize hzz : zs.getD p 0 = z at *
          generalize hcc : cN zs p = c at *
          generalize ((endN c : Nat) : Int) = bw at *
          clear hzz
          go_wp2_with fail
          refine HD.out.mono ?_
          rintro e v3 ⟨rfl, SB, K⟩
          have HSB3 := Lib.hid SB
          have HK3 := Lib.hid (HK.out.trans K)
          clear SB K
          go_wp2_with fail
          have h4 := HST.out.2.2
          have h5 := HES.out
          go_roundw
          case rel => exact ⟨(p : Int) - 1, p, rfl, by omega, by omega, _, HOK2.out, HST.out.2.1, by omega, HSB3.out, HK3.out⟩
          case measure => simp [intOf]
        · obtain rfl : j = 0 := by omega
          obtain rfl : y = -1 := by omega
          obtain ⟨code, st⟩ := s
          obtain rfl : st = [] := by
            have := congrArg List.length HKS.out
            simpa [kindsS, ksN] using this
          have hsl2 : code.length = wn := by simpa [eN] using hsl
          have HO := Lib.hid (open_st HSB1.out)
          have HL := Lib.hid (len_st HSB1.out)
          have HE := Lib.hid (end_st HSB1.out (HF.out wr K) (by omega))
          subst hsl2
          clear K hsl hy hj0
          dsimp only at *
          go_wp2_with (first
            | (go_at_call 19; refine HO.out.mono ?_; rintro e v3 ⟨rfl, rfl⟩)
            | (go_at_call 23; refine HL.out.mono ?_; rintro e v4 ⟨rfl, rfl⟩))
          refine HE.out.mono ?_
          rintro e t1 ⟨g, gc, rfl, hrow, _, _, K⟩
          have hrow2 := owns_kept hrow ((Kept.refl (fun _ => False) t1).alloc (.cells #[.slice (some ⟨g, 0, none⟩) (code.length + 1) gc] 34)) (fun _ _ h => h)
          have HMY := Lib.hid (may_okay code HOK.out _ _ hrow2)
          have HKT := Lib.hid ((HKV.out.trans ((HK.out.trans K).mono (T := FN w) (fun r h => h.1))).alloc (.cells #[.slice (some ⟨g, 0, none⟩) (code.length + 1) gc] 34))
          clear K hrow hrow2
          go_wp2_with fail
          refine HMY.out.mono ?_
          rintro e t2 ⟨rfl, K⟩
          have HKT2 := Lib.hid (HKT.out.trans K.nb)
          clear K
          go_wp2_with fail
          all_goals (first | go_ret | skip)
          all_goals exact ⟨rfl, HKT2.out.fin⟩
set_option maxRecDepth 100000 in
set_option maxHeartbeats 16000000 in
theorem nests_nil (many : Int) (hmany : 0 ≤ many ∧ many < 256) (w : World) :
    Calls Try.prog 9 #[.slice none 0 0, .int .u8 many] w fun e w' => e = .returned (.bool true) ∧ Below w.heap.size w w' := by
  have HSH := Lib.hid (shown_any w)
  obtain ⟨zs, hzs⟩ : ∃ zs : List Int, zs = [] := ⟨_, rfl⟩
  have HZB := Lib.hid (show ∀ n ∈ zs, 0 ≤ n ∧ n < 256 by rw [hzs]; simp)
  clear hzs
  obtain ⟨kk, hkk⟩ : ∃ kk : Nat, many.tmod 4 = (kk : Int) := ⟨(many.tmod 4).toNat, by rw [Int.tmod_eq_emod_of_nonneg hmany.1]; omega⟩
  have hk4 : kk < 4 := by rw [Int.tmod_eq_emod_of_nonneg hmany.1] at hkk; omega
  have hwk : IntKind.i64.wrap (kk : Int) = (kk : Int) := IntWalk.i64_in _ (by omega)
  clear hmany
  go_enter Try.func9, Try.ntmps9
  try simp only [List.append]
  go_wp2_with fail
  refine HSH.out.mono ?_
  rintro e v1 ⟨rfl, K⟩
  have HK1 := Lib.hid (K.nb (S := FN w))
  have HN := Lib.hid (new_st (FN w) v1 (FN.all HK1.out))
  clear K
  go_wp2_with fail
  refine HN.out.mono ?_
  rintro e v2 ⟨pb, rfl, _, SB, K⟩
  have HSB := Lib.hid SB
  have HK2 := Lib.hid (HK1.out.trans K)
  clear SB K
  go_wp2_with fail
  obtain ⟨b0, hb0⟩ : ∃ b0, b0 = v2.heap.size := ⟨_, rfl⟩
  rw [← hb0]
  change Code.wp _ _ _ _ (allocs v2 (rowsN b0))
  obtain ⟨V, hV⟩ : ∃ V, V = allocs v2 (rowsN b0) := ⟨_, rfl⟩
  rw [← hV]
  have hVs : V.heap.size = b0 + 9 := by rw [hV, allocs_size, hb0]; rfl
  have HRW := Lib.hid (show ∀ i o, (rowsN b0)[i]? = some o → V.heap[b0 + i]? = some o from fun i o h => by
    have := allocs_get (rowsN b0) v2 i o h
    rw [← hV, ← hb0] at this
    exact this)
  have HKV := Lib.hid (show Kept (FN w) w V by rw [hV]; exact allocs_kept _ HK2.out)
  have hv1 : w.heap.size ≤ v1.heap.size := HK1.out.size
  have HSV := Lib.hid (show BldS (fun r => FN w r ∧ (r < b0 ∨ b0 + 9 ≤ r)) V pb [] [] by
    rw [hV]
    exact (HSB.out.tight.mono (fun r hr => ⟨hr.1, .inl (by have := hr.2; omega)⟩)).kept (allocs_kept (S := fun _ => False) _ (Kept.refl _ v2)) (fun _ _ h => h))
  clear hV HSB HK2 HN HK1 hb0
  generalize hlb : b0 + 1 + 1 + 1 + 1 + 1 + 1 + 1 + 1 = lb
  generalize heb : b0 + 1 + 1 + 1 + 1 + 1 + 1 + 1 = eb
  generalize hrb : b0 + 1 + 1 + 1 + 1 + 1 + 1 = rb
  have hlb : lb = b0 + 8 := by omega
  have heb : eb = b0 + 7 := by omega
  have hrb : rb = b0 + 6 := by omega
  have HAT := Lib.hid (And.intro hlb (And.intro heb hrb))
  clear hlb heb hrb
  have HF := Lib.hid (show ∀ W, Kept (fun r => FN w r ∧ (r < b0 ∨ b0 + 9 ≤ r)) V W → ∀ r, W.heap.size ≤ r → FN w r ∧ (r < b0 ∨ b0 + 9 ≤ r) from fun W K r hr => ⟨FN.all HKV.out r (Nat.le_trans K.size hr), .inr (by have := K.size; omega)⟩)
  have HCE := Lib.hid (show ∀ W, Kept (fun r => FN w r ∧ (r < b0 ∨ b0 + 9 ≤ r)) V W → ∀ (a : Addr) v, V.cell? a = some v → b0 ≤ a.block → a.block < b0 + 9 → W.cell? a = some v from fun W K a v h h1 h2 => cell_far K a v h (fun h => by have := h.2; omega))
  clear hVs
  go_loopw [12, 43] (fun s12 s43 wr => ∃ i : Nat, i = 0 ∧ s43 = .int .i64 i ∧ s12 = .int .i64 (wN zs kk i : Nat) ∧ ∃ s : St, Okay s ∧ kindsS s = ksN zs i ∧ s.1.length + eN zs i = wN zs kk i ∧ BldS (fun r => FN w r ∧ (r < b0 ∨ b0 + 9 ≤ r)) wr pb s.1 s.2 ∧ Kept (fun r => FN w r ∧ (r < b0 ∨ b0 + 9 ≤ r)) V wr) (fun _ _ _ => 0)
  case atStart => exact ⟨0, rfl, rfl, rfl, ([], []), okay_nil, rfl, rfl, HSV.out, Kept.refl _ _⟩
  case round =>
    clear HSV
    obtain ⟨i, hi, rfl, rfl, s, hI, hks, hsl, SB, K⟩ := hrel
    have HSB1 := Lib.hid SB
    have HK := Lib.hid K
    have HOK := Lib.hid hI
    have HKS := Lib.hid hks
    have hwle := wN_le zs HZB.out kk hk4 i
    have HW75 := Lib.hid (show wN zs kk i ≤ 75 by omega)
    clear SB hI hks
    · obtain rfl := hi
      clear K
      generalize hwn : wN zs kk 0 = wn at *
      go_wp2_with fail
      go_loopw [17] (fun v wr => v = .int .i64 (-1) ∧ ∃ s : St, Okay s ∧ kindsS s = ksN zs 0 ∧ s.1.length + eN zs 0 = wn ∧ BldS (fun r => FN w r ∧ (r < b0 ∨ b0 + 9 ≤ r)) wr pb s.1 s.2 ∧ Kept (fun r => FN w r ∧ (r < b0 ∨ b0 + 9 ≤ r)) V wr) (fun v _ => 0)
      case atStart => exact ⟨rfl, s, HOK.out, HKS.out, hsl, HSB1.out, HK.out⟩
      case round =>
        clear HOK HKS HSB1 HK hsl
        obtain ⟨rfl, s, hI, hks, hsl, SB, K⟩ := hrel
        have HSB1 := Lib.hid SB
        have HK := Lib.hid K
        have HOK := Lib.hid hI
        have HKS := Lib.hid hks
        clear SB hI hks
        · obtain ⟨code, st⟩ := s
          obtain rfl : st = [] := by
            have := congrArg List.length HKS.out
            simpa [kindsS, ksN] using this
          have hsl2 : code.length = wn := by simpa [eN] using hsl
          have HO := Lib.hid (open_st HSB1.out)
          have HL := Lib.hid (len_st HSB1.out)
          have HE := Lib.hid (end_st HSB1.out (HF.out wr K) (by omega))
          subst hsl2
          clear K hsl
          dsimp only at *
          go_wp2_with (first
            | (go_at_call 19; refine HO.out.mono ?_; rintro e v3 ⟨rfl, rfl⟩)
            | (go_at_call 23; refine HL.out.mono ?_; rintro e v4 ⟨rfl, rfl⟩))
          refine HE.out.mono ?_
          rintro e t1 ⟨g, gc, rfl, hrow, _, _, K⟩
          have hrow2 := owns_kept hrow ((Kept.refl (fun _ => False) t1).alloc (.cells #[.slice (some ⟨g, 0, none⟩) (code.length + 1) gc] 34)) (fun _ _ h => h)
          have HMY := Lib.hid (may_okay code HOK.out _ _ hrow2)
          have HKT := Lib.hid ((HKV.out.trans ((HK.out.trans K).mono (T := FN w) (fun r h => h.1))).alloc (.cells #[.slice (some ⟨g, 0, none⟩) (code.length + 1) gc] 34))
          clear K hrow hrow2
          go_wp2_with fail
          refine HMY.out.mono ?_
          rintro e t2 ⟨rfl, K⟩
          have HKT2 := Lib.hid (HKT.out.trans K.nb)
          clear K
          go_wp2_with fail
          all_goals (first | go_ret | skip)
          all_goals exact ⟨rfl, HKT2.out.fin⟩
theorem walk_FlowNests (a0 : Option Addr) (len0 cap0 : Nat) (z0 : List Int) (many : Int) (w : World) (w0 : (a0 = none ∧ len0 = 0 ∧ cap0 = 0 ∧ z0 = []) ∨
    ∃ x, a0 = some x ∧ len0 ≤ cap0 ∧ cap0 ≤ maxLen ∧ z0.length = cap0 ∧ (∀ i, i < z0.length → w.cell? (x.add i) = some (.int .u8 (z0.getD i 0))) ∧ ∀ n ∈ z0, (Lit.int .u8 n).wf = true) (w1 : (Lit.int .u8 many).wf = true) :
    Calls Try.prog 9 #[.slice a0 len0 cap0, .int .u8 many] w fun e w' => e = .returned (.bool true) ∧ Below w.heap.size w w' := by
  have hm : 0 ≤ many ∧ many < 256 := by simp [Lit.wf, IntKind.min, IntKind.max, IntKind.signed, IntKind.bits] at w1; omega
  rcases w0 with ⟨rfl, rfl, rfl, rfl⟩ | ⟨x, rfl, h1, h2, h3, h4, h5⟩
  · exact nests_nil many hm w
  · refine nests_some x len0 cap0 z0 many hm w h1 h2 h3 h4 (fun n hn => ?_)
    have := h5 n hn
    simp [Lit.wf, IntKind.min, IntKind.max, IntKind.signed, IntKind.bits] at this
    omega
end Go.Proofs.Ytdpoobkfhmmbjaa
