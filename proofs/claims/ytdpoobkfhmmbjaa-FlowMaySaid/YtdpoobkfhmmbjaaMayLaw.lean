/- The walk of FlowMay. -/
import Derived.Test.YtdpoobkfhmmbjaaFnw
import Derived.Deep.DeepCutAuto
namespace Go.Proofs.Ytdpoobkfhmmbjaa
open Go.RowKit
def clsC : Array Value := #[.int .i64 3, .int .i64 6, .int .i64 7, .int .i64 11, .int .i64 16, .int .i64 17]
theorem cls_get (q : Nat) (h : q < 6) : clsC[q]? = some (.int .i64 ((clsB q : Nat) : Int)) := by
  match q, h with
  | 0, _ | 1, _ | 2, _ | 3, _ | 4, _ | 5, _ => rfl
set_option maxRecDepth 100000 in
set_option maxHeartbeats 16000000 in
theorem may_nil (w : World) : Calls Try.prog 5 #[.slice none 0 0] w fun e w' => e = .returned (.bool true) ∧ Below w.heap.size w w' := by
  have HSH := Lib.hid (shown_any w)
  obtain ⟨m, hm⟩ : ∃ m : Nat, m = 0 := ⟨_, rfl⟩
  go_enter Try.func5, Try.ntmps5
  try simp only [List.append]
  go_wp2_with fail
  refine HSH.out.mono ?_
  rintro e v1 ⟨rfl, K⟩
  have HK1 := Lib.hid (K.nb (S := FN w))
  have HN := Lib.hid (new_st (FN w) v1 (FN.all HK1.out))
  clear K
  go_wp2_with fail
  refine HN.out.mono ?_
  rintro e v2 ⟨pb, rfl, _, SB, K⟩
  have HSB := Lib.hid SB
  have HK2 := Lib.hid (HK1.out.trans K)
  clear SB K
  go_wp2_with fail
  go_loopw [21] (fun i wr => i = .int .i64 0 ∧ BldS (FN w) wr pb [] [] ∧ Kept (FN w) w wr) (fun _ _ => 0)
  case atStart => exact ⟨rfl, HSB.out, HK2.out⟩
  case round =>
    clear HSB HK2
    obtain ⟨rfl, SB, K⟩ := hrel
    have HSB1 := Lib.hid SB
    have HK := Lib.hid K
    have HOK := Lib.hid okay_nil
    obtain ⟨s, hs⟩ : ∃ s : St, s = ([], []) := ⟨_, rfl⟩
    have hsl : s.1.length ≤ m := by rw [hs]; simp
    rw [show BldS (FN w) wr pb [] [] = BldS (FN w) wr pb s.1 s.2 by rw [hs]] at HSB1
    rw [← hs] at HOK
    clear SB K hs
    obtain rfl := hm
    have hm30 : (0 : Nat) ≤ 60 := by omega
    go_wp2_with fail
    go_loopw [38] (fun i wr => ∃ j : Nat, j ≤ 96 ∧ i = .int .i64 j ∧ ∃ s : St, Okay s ∧ s.1.length ≤ 0 + j ∧ s.2.length ≤ 32 - j ∧ BldS (FN w) wr pb s.1 s.2 ∧ Kept (FN w) w wr) (fun i _ => 96 - (intOf i).toNat)
    case atStart => exact ⟨0, by omega, rfl, s, HOK.out, by omega, HOK.out.deep, HSB1.out, HK.out⟩
    case round =>
      clear HOK HSB1 HK hsl
      obtain ⟨j, hj, rfl, s, hI, hsl, hsd, SB, K⟩ := hrel
      have HSB1 := Lib.hid SB
      have HK := Lib.hid K
      have HOK := Lib.hid hI
      have HO := Lib.hid (open_st SB)
      clear SB hI K
      by_cases hlt : j < 96
      · by_cases hz : s.2.length = 0
        · have hz0 : ((s.2.length : Nat) : Int) = 0 := by omega
          obtain ⟨code, st⟩ := s
          obtain rfl : st = [] := List.length_eq_zero_iff.1 hz
          clear hz hsd
          dsimp only at *
          go_wp2_with (go_at_call 19; refine HO.out.mono ?_; rintro e v3 ⟨rfl, rfl⟩)
          have HE := Lib.hid (end_st HSB1.out (FN.all HK.out) (by have := HOK.out.wf.len; dsimp only at this; omega))
          go_wp2_with fail
          refine HE.out.mono ?_
          rintro e t1 ⟨g, gc, rfl, hrow, _, _, K⟩
          have hrow2 := owns_kept hrow ((Kept.refl (fun _ => False) t1).alloc (.cells #[.slice (some ⟨g, 0, none⟩) (code.length + 1) gc] 34)) (fun _ _ h => h)
          have HMY := Lib.hid (may_okay code HOK.out _ _ hrow2)
          have HKT := Lib.hid ((HK.out.trans K).alloc (.cells #[.slice (some ⟨g, 0, none⟩) (code.length + 1) gc] 34))
          clear K hrow hrow2
          go_wp2_with fail
          refine HMY.out.mono ?_
          rintro e t2 ⟨rfl, K⟩
          have HKT2 := Lib.hid (HKT.out.trans K.nb)
          clear K
          go_wp2_with fail
          all_goals (first | go_ret | skip)
          all_goals exact ⟨rfl, HKT2.out.fin⟩
        · have hz0 : (((s.2.length : Nat) : Int) == 0) = false := by rw [beq_eq_false_iff_ne]; omega
          obtain ⟨W1, hW1⟩ : ∃ W1, wr.alloc (.cells clsC 3) = W1 := ⟨_, rfl⟩
          have hW1s : W1.heap.size = wr.heap.size + 1 := by rw [← hW1]; simp
          have HCL := Lib.hid (show W1.heap[wr.heap.size]? = some (.cells clsC 3 (0, 0)) by rw [← hW1]; exact (MapKept.heap_alloc wr _).1)
          have HB1 := Lib.hid (show BldS (fun r => FN w r ∧ r ≠ wr.heap.size) W1 pb s.1 s.2 by rw [← hW1]; exact (HSB1.out.tight.mono (fun r hr => ⟨hr.1, by have := hr.2; omega⟩)).alloc _)
          have HK1 := Lib.hid (show Kept (FN w) w W1 by rw [← hW1]; exact HK.out.alloc _)
          unfold clsC at hW1
          go_wp2_with (go_at_call 19; refine HO.out.mono ?_; rintro e v3 ⟨rfl, rfl⟩)
          generalize hcb : wr.heap.size = cb at *
          go_loopw [45] (fun i wq => ∃ q : Nat, q ≤ 6 ∧ i = .int .i64 q ∧ BldS (fun r => FN w r ∧ r ≠ cb) wq pb s.1 s.2 ∧ Kept (fun r => FN w r ∧ r ≠ cb) W1 wq ∧ ∀ t, t < q → ¬ ∃ rest, kindsS s = asksOf (clsB t) ++ rest) (fun i _ => 6 - (intOf i).toNat)
          case atStart => exact ⟨0, by omega, rfl, HB1.out, Kept.refl _ _, by intro t ht; omega⟩
          case round =>
            clear HO HB1 HSB1 HK
            obtain ⟨q, hq, rfl, SB, K, hno⟩ := hrel
            have HNO := Lib.hid hno
            have HSB1 := Lib.hid SB
            have HKQ := Lib.hid K
            clear SB hno
            by_cases hq6 : q < 6
            · have hcl : wr.cell? ⟨cb, q, none⟩ = some (.int .i64 ((clsB q : Nat) : Int)) := by
                rw [cell_block ((K.block cb (by omega) (fun h => h.2 rfl)).trans HCL.out)]
                exact cls_get q hq6
              have hFQ : ∀ r, wr.heap.size ≤ r → FN w r ∧ r ≠ cb := fun r hr => ⟨FN.all HK1.out r (Nat.le_trans K.size hr), by have := K.size; omega⟩
              have HD := Lib.hid (do_okay HSB1.out hFQ HOK.out ((clsB q : Nat) : Int))
              have HST := Lib.hid (cls_step q hq6 s (by omega))
              have HOK2 := Lib.hid (HOK.out.do ((clsB q : Nat) : Int))
              have HLE := Lib.hid (do_le ((clsB q : Nat) : Int) s)
              clear K hFQ
              generalize ((clsB q : Nat) : Int) = cq at hcl HD HST HOK2 HLE
              rcases HST.out with ⟨ha, hdl⟩ | ⟨ha, hds, hnf⟩
              · rw [ha] at HD
                clear HST ha
                go_wp2_with fail
                refine HD.out.mono ?_
                rintro e v4 ⟨rfl, SB, K⟩
                have HSB3 := Lib.hid (SB.mono (G := FN w) (fun r hr => hr.1))
                have HK3 := Lib.hid (HK1.out.trans ((HKQ.out.trans K).mono (T := FN w) (fun r hr => hr.1)))
                clear SB K
                go_wp2_with fail
                go_roundw
                case rel => exact ⟨j + 1, by omega, by go_num, _, HOK2.out, by have := HLE.out; omega, by omega, HSB3.out, HK3.out⟩
                case measure => simp [intOf]; omega
              · rw [hds] at HD
                clear HST hds
                generalize ansS cq s = an at *
                go_wp2_with fail
                refine HD.out.mono ?_
                rintro e v4 ⟨rfl, SB, K⟩
                have HSB3 := Lib.hid SB
                have HK3 := Lib.hid (HKQ.out.trans K)
                clear SB K
                go_wp2_with fail
                go_roundw
                case rel => exact ⟨q + 1, by omega, by go_num, HSB3.out, HK3.out, fun t ht => by
                  by_cases h : t = q
                  · subst h; exact hnf
                  · exact HNO.out t (by omega)⟩
                case measure => simp [intOf]; omega
            · exfalso
              obtain ⟨t, ht, h⟩ := cls_some (kindsS s) HOK.out.chn (fun h => hz (by have := congrArg List.length h; simpa [kindsS] using this))
              exact HNO.out t (by omega) h
      · obtain rfl : j = 96 := by omega
        obtain ⟨code, st⟩ := s
        obtain rfl : st = [] := List.length_eq_zero_iff.1 (by dsimp only at hsd; omega)
        dsimp only at *
        have HE := Lib.hid (end_st HSB1.out (FN.all HK.out) (by have := HOK.out.wf.len; dsimp only at this; omega))
        go_wp2_with fail
        refine HE.out.mono ?_
        rintro e t1 ⟨g, gc, rfl, hrow, _, _, K⟩
        have hrow2 := owns_kept hrow ((Kept.refl (fun _ => False) t1).alloc (.cells #[.slice (some ⟨g, 0, none⟩) (code.length + 1) gc] 34)) (fun _ _ h => h)
        have HMY := Lib.hid (may_okay code HOK.out _ _ hrow2)
        have HKT := Lib.hid ((HK.out.trans K).alloc (.cells #[.slice (some ⟨g, 0, none⟩) (code.length + 1) gc] 34))
        clear K hrow hrow2
        go_wp2_with fail
        refine HMY.out.mono ?_
        rintro e t2 ⟨rfl, K⟩
        have HKT2 := Lib.hid (HKT.out.trans K.nb)
        clear K
        go_wp2_with fail
        all_goals (first | go_ret | skip)
        all_goals exact ⟨rfl, HKT2.out.fin⟩
set_option maxRecDepth 100000 in
set_option maxHeartbeats 16000000 in
theorem may_some (x : Addr) (len0 cap0 : Nat) (zs : List Int) (w : World) (hlc : len0 ≤ cap0) (_hcm : cap0 ≤ maxLen) (hzl : zs.length = cap0) (hz : ∀ i, i < zs.length → w.cell? (x.add i) = some (.int .i8 (zs.getD i 0))) (hzb : ∀ n ∈ zs, -128 ≤ n ∧ n < 128) :
    Calls Try.prog 5 #[.slice (some x) len0 cap0] w fun e w' => e = .returned (.bool true) ∧ Below w.heap.size w w' := by
  have HSH := Lib.hid (shown_any w)
  obtain ⟨m, hm⟩ : ∃ m : Nat, m = min len0 60 := ⟨_, rfl⟩
  have hmin : (if (60 : Int) < (len0 : Int) then (60 : Int) else (len0 : Int)) = (m : Int) := by split <;> omega
  have hm30 : m ≤ 60 := by omega
  have hmc : m ≤ cap0 := by omega
  have HZ := Lib.hid hz
  have HZB := Lib.hid hzb
  have HZL := Lib.hid hzl
  clear hz hzb hzl hm
  go_enter Try.func5, Try.ntmps5
  try simp only [List.append]
  go_wp2_with fail
  refine HSH.out.mono ?_
  rintro e v1 ⟨rfl, K⟩
  have HK1 := Lib.hid (K.nb (S := FN w))
  have HN := Lib.hid (new_st (FN w) v1 (FN.all HK1.out))
  clear K
  go_wp2_with fail
  refine HN.out.mono ?_
  rintro e v2 ⟨pb, rfl, _, SB, K⟩
  have HSB := Lib.hid SB
  have HK2 := Lib.hid (HK1.out.trans K)
  clear SB K
  go_wp2_with fail
  go_loopw [21] (fun i wr => ∃ k : Nat, k ≤ m ∧ i = .int .i64 k ∧ ∃ s : St, Okay s ∧ s.1.length ≤ k ∧ BldS (FN w) wr pb s.1 s.2 ∧ Kept (FN w) w wr) (fun i _ => m - (intOf i).toNat)
  case atStart => exact ⟨0, by omega, rfl, ([], []), okay_nil, by simp, HSB.out, HK2.out⟩
  case round =>
    clear HSB HK2
    obtain ⟨k, hk, rfl, s, hI, hsl, SB, K⟩ := hrel
    have HSB1 := Lib.hid SB
    have HK := Lib.hid K
    have HOK := Lib.hid hI
    clear SB hI
    by_cases hlt : k < m
    · have hkz : k < zs.length := by have := HZL.out; omega
      have z0 := cell_far K.old _ _ (HZ.out k hkz) (fun h => h)
      have hzr : -128 ≤ zs.getD k 0 ∧ zs.getD k 0 < 128 := HZB.out _ (by rw [List.getD_eq_getElem?_getD, List.getElem?_eq_getElem hkz]; exact List.getElem_mem hkz)
      clear K
      generalize zs.getD k 0 = z at *
      by_cases hneg : z < 0
      · have hwz : IntKind.i64.wrap z = z := IntWalk.i64_in _ (by omega)
        have HP := Lib.hid (put_st HSB1.out (FN.all HK.out) (1, 0, z) (by omega))
        have HOK2 := Lib.hid (HOK.out.put (by omega) (1, 0, z) ⟨.inl rfl, .inl rfl, .inr rfl⟩ rfl rfl rfl)
        go_wp2_with fail
        refine HP.out.mono ?_
        rintro e v3 ⟨rfl, SB, K⟩
        have HSB3 := Lib.hid SB
        have HK3 := Lib.hid (HK.out.trans K)
        clear SB K
        go_wp2_with fail
        go_roundw
        case rel => exact ⟨k + 1, by omega, by go_num, _, HOK2.out, by simp; omega, HSB3.out, HK3.out⟩
        case measure => simp [intOf]; omega
      · obtain ⟨t, ht⟩ : ∃ t : Nat, z.tmod 24 = (t : Int) := ⟨(z.tmod 24).toNat, by rw [Int.tmod_eq_emod_of_nonneg (by omega)]; omega⟩
        have ht24 : t < 24 := by rw [Int.tmod_eq_emod_of_nonneg (by omega)] at ht; omega
        have hwt : IntKind.i64.wrap (t : Int) = (t : Int) := IntWalk.i64_in _ (by omega)
        have HD := Lib.hid (do_okay HSB1.out (FN.all HK.out) HOK.out (t : Int))
        have HOK2 := Lib.hid (HOK.out.do (t : Int))
        have hle := do_le (t : Int) s
        go_wp2_with fail
        refine HD.out.mono ?_
        rintro e v3 ⟨rfl, SB, K⟩
        have HSB3 := Lib.hid SB
        have HK3 := Lib.hid (HK.out.trans K)
        clear SB K
        go_wp2_with fail
        go_roundw
        case rel => exact ⟨k + 1, by omega, by go_num, _, HOK2.out, by omega, HSB3.out, HK3.out⟩
        case measure => simp [intOf]; omega
    · obtain rfl : k = m := by omega
      clear hmin K hmc
      go_wp2_with fail
      go_loopw [38] (fun i wr => ∃ j : Nat, j ≤ 96 ∧ i = .int .i64 j ∧ ∃ s : St, Okay s ∧ s.1.length ≤ k + j ∧ s.2.length ≤ 32 - j ∧ BldS (FN w) wr pb s.1 s.2 ∧ Kept (FN w) w wr) (fun i _ => 96 - (intOf i).toNat)
      case atStart => exact ⟨0, by omega, rfl, s, HOK.out, by omega, HOK.out.deep, HSB1.out, HK.out⟩
      case round =>
        clear HOK HSB1 HK hsl
        obtain ⟨j, hj, rfl, s, hI, hsl, hsd, SB, K⟩ := hrel
        have HSB1 := Lib.hid SB
        have HK := Lib.hid K
        have HOK := Lib.hid hI
        have HO := Lib.hid (open_st SB)
        clear SB hI K
        by_cases hlt : j < 96
        · by_cases hz : s.2.length = 0
          · have hz0 : ((s.2.length : Nat) : Int) = 0 := by omega
            obtain ⟨code, st⟩ := s
            obtain rfl : st = [] := List.length_eq_zero_iff.1 hz
            clear hz hsd
            dsimp only at *
            go_wp2_with (go_at_call 19; refine HO.out.mono ?_; rintro e v3 ⟨rfl, rfl⟩)
            have HE := Lib.hid (end_st HSB1.out (FN.all HK.out) (by have := HOK.out.wf.len; dsimp only at this; omega))
            go_wp2_with fail
            refine HE.out.mono ?_
            rintro e t1 ⟨g, gc, rfl, hrow, _, _, K⟩
            have hrow2 := owns_kept hrow ((Kept.refl (fun _ => False) t1).alloc (.cells #[.slice (some ⟨g, 0, none⟩) (code.length + 1) gc] 34)) (fun _ _ h => h)
            have HMY := Lib.hid (may_okay code HOK.out _ _ hrow2)
            have HKT := Lib.hid ((HK.out.trans K).alloc (.cells #[.slice (some ⟨g, 0, none⟩) (code.length + 1) gc] 34))
            clear K hrow hrow2
            go_wp2_with fail
            refine HMY.out.mono ?_
            rintro e t2 ⟨rfl, K⟩
            have HKT2 := Lib.hid (HKT.out.trans K.nb)
            clear K
            go_wp2_with fail
            all_goals (first | go_ret | skip)
            all_goals exact ⟨rfl, HKT2.out.fin⟩
          · have hz0 : (((s.2.length : Nat) : Int) == 0) = false := by rw [beq_eq_false_iff_ne]; omega
            obtain ⟨W1, hW1⟩ : ∃ W1, wr.alloc (.cells clsC 3) = W1 := ⟨_, rfl⟩
            have hW1s : W1.heap.size = wr.heap.size + 1 := by rw [← hW1]; simp
            have HCL := Lib.hid (show W1.heap[wr.heap.size]? = some (.cells clsC 3 (0, 0)) by rw [← hW1]; exact (MapKept.heap_alloc wr _).1)
            have HB1 := Lib.hid (show BldS (fun r => FN w r ∧ r ≠ wr.heap.size) W1 pb s.1 s.2 by rw [← hW1]; exact (HSB1.out.tight.mono (fun r hr => ⟨hr.1, by have := hr.2; omega⟩)).alloc _)
            have HK1 := Lib.hid (show Kept (FN w) w W1 by rw [← hW1]; exact HK.out.alloc _)
            unfold clsC at hW1
            go_wp2_with (go_at_call 19; refine HO.out.mono ?_; rintro e v3 ⟨rfl, rfl⟩)
            generalize hcb : wr.heap.size = cb at *
            go_loopw [45] (fun i wq => ∃ q : Nat, q ≤ 6 ∧ i = .int .i64 q ∧ BldS (fun r => FN w r ∧ r ≠ cb) wq pb s.1 s.2 ∧ Kept (fun r => FN w r ∧ r ≠ cb) W1 wq ∧ ∀ t, t < q → ¬ ∃ rest, kindsS s = asksOf (clsB t) ++ rest) (fun i _ => 6 - (intOf i).toNat)
            case atStart => exact ⟨0, by omega, rfl, HB1.out, Kept.refl _ _, by intro t ht; omega⟩
            case round =>
              clear HO HB1 HSB1 HK
              obtain ⟨q, hq, rfl, SB, K, hno⟩ := hrel
              have HNO := Lib.hid hno
              have HSB1 := Lib.hid SB
              have HKQ := Lib.hid K
              clear SB hno
              by_cases hq6 : q < 6
              · have hcl : wr.cell? ⟨cb, q, none⟩ = some (.int .i64 ((clsB q : Nat) : Int)) := by
                  rw [cell_block ((K.block cb (by omega) (fun h => h.2 rfl)).trans HCL.out)]
                  exact cls_get q hq6
                have hFQ : ∀ r, wr.heap.size ≤ r → FN w r ∧ r ≠ cb := fun r hr => ⟨FN.all HK1.out r (Nat.le_trans K.size hr), by have := K.size; omega⟩
                have HD := Lib.hid (do_okay HSB1.out hFQ HOK.out ((clsB q : Nat) : Int))
                have HST := Lib.hid (cls_step q hq6 s (by omega))
                have HOK2 := Lib.hid (HOK.out.do ((clsB q : Nat) : Int))
                have HLE := Lib.hid (do_le ((clsB q : Nat) : Int) s)
                clear K hFQ
                generalize ((clsB q : Nat) : Int) = cq at hcl HD HST HOK2 HLE
                rcases HST.out with ⟨ha, hdl⟩ | ⟨ha, hds, hnf⟩
                · rw [ha] at HD
                  clear HST ha
                  go_wp2_with fail
                  refine HD.out.mono ?_
                  rintro e v4 ⟨rfl, SB, K⟩
                  have HSB3 := Lib.hid (SB.mono (G := FN w) (fun r hr => hr.1))
                  have HK3 := Lib.hid (HK1.out.trans ((HKQ.out.trans K).mono (T := FN w) (fun r hr => hr.1)))
                  clear SB K
                  go_wp2_with fail
                  go_roundw
                  case rel => exact ⟨j + 1, by omega, by go_num, _, HOK2.out, by have := HLE.out; omega, by omega, HSB3.out, HK3.out⟩
                  case measure => simp [intOf]; omega
                · rw [hds] at HD
                  clear HST hds
                  generalize ansS cq s = an at *
                  go_wp2_with fail
                  refine HD.out.mono ?_
                  rintro e v4 ⟨rfl, SB, K⟩
                  have HSB3 := Lib.hid SB
                  have HK3 := Lib.hid (HKQ.out.trans K)
                  clear SB K
                  go_wp2_with fail
                  go_roundw
                  case rel => exact ⟨q + 1, by omega, by go_num, HSB3.out, HK3.out, fun t ht => by
                    by_cases h : t = q
                    · subst h; exact hnf
                    · exact HNO.out t (by omega)⟩
                  case measure => simp [intOf]; omega
              · exfalso
                obtain ⟨t, ht, h⟩ := cls_some (kindsS s) HOK.out.chn (fun h => hz (by have := congrArg List.length h; simpa [kindsS] using this))
                exact HNO.out t (by omega) h
        · obtain rfl : j = 96 := by omega
          obtain ⟨code, st⟩ := s
          obtain rfl : st = [] := List.length_eq_zero_iff.1 (by dsimp only at hsd; omega)
          dsimp only at *
          have HE := Lib.hid (end_st HSB1.out (FN.all HK.out) (by have := HOK.out.wf.len; dsimp only at this; omega))
          go_wp2_with fail
          refine HE.out.mono ?_
          rintro e t1 ⟨g, gc, rfl, hrow, _, _, K⟩
          have hrow2 := owns_kept hrow ((Kept.refl (fun _ => False) t1).alloc (.cells #[.slice (some ⟨g, 0, none⟩) (code.length + 1) gc] 34)) (fun _ _ h => h)
          have HMY := Lib.hid (may_okay code HOK.out _ _ hrow2)
          have HKT := Lib.hid ((HK.out.trans K).alloc (.cells #[.slice (some ⟨g, 0, none⟩) (code.length + 1) gc] 34))
          clear K hrow hrow2
          go_wp2_with fail
          refine HMY.out.mono ?_
          rintro e t2 ⟨rfl, K⟩
          have HKT2 := Lib.hid (HKT.out.trans K.nb)
          clear K
          go_wp2_with fail
          all_goals (first | go_ret | skip)
          all_goals exact ⟨rfl, HKT2.out.fin⟩
theorem walk_FlowMay (a0 : Option Addr) (len0 cap0 : Nat) (z0 : List Int) (w : World) (w0 : (a0 = none ∧ len0 = 0 ∧ cap0 = 0 ∧ z0 = []) ∨
    ∃ x, a0 = some x ∧ len0 ≤ cap0 ∧ cap0 ≤ maxLen ∧ z0.length = cap0 ∧ (∀ i, i < z0.length → w.cell? (x.add i) = some (.int .i8 (z0.getD i 0))) ∧ ∀ n ∈ z0, (Lit.int .i8 n).wf = true) :
    Calls Try.prog 5 #[.slice a0 len0 cap0] w fun e w' => e = .returned (.bool true) ∧ Below w.heap.size w w' := by
  rcases w0 with ⟨rfl, rfl, rfl, rfl⟩ | ⟨x, rfl, h1, h2, h3, h4, h5⟩
  · exact may_nil w
  · refine may_some x len0 cap0 z0 w h1 h2 h3 h4 (fun n hn => ?_)
    have := h5 n hn
    simp [Lit.wf, IntKind.min, IntKind.max, IntKind.signed, IntKind.bits] at this
    omega
end Go.Proofs.Ytdpoobkfhmmbjaa
