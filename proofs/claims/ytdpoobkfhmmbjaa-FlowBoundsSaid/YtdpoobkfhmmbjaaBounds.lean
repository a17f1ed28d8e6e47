/- The walk of FlowBounds. -/
import Derived.Test.YtdpoobkfhmmbjaaShown
namespace Go.Proofs.Ytdpoobkfhmmbjaa
open Go.RowKit
theorem len_nil (w : World) : Calls Try.prog 23 #[.pointer none] w fun e w' => e = .returned (.int .i64 0) ∧ w = w' := by
  go_enter Try.func23, Try.ntmps23
  go_wp2
  all_goals (first | go_ret | skip)
  all_goals exact ⟨rfl, rfl⟩
theorem open_nil (w : World) : Calls Try.prog 19 #[.pointer none] w fun e w' => e = .returned (.int .i64 0) ∧ w = w' := by
  go_enter Try.func19, Try.ntmps19
  go_wp2
  all_goals (first | go_ret | skip)
  all_goals exact ⟨rfl, rfl⟩
set_option maxRecDepth 100000 in
theorem do_nil (n : Int) (w : World) : Calls Try.prog 13 #[.pointer none, .int .i64 n] w fun e w' => e = .returned (.int .i64 2) ∧ w = w' := by
  go_enter Try.func13, Try.ntmps13
  go_wp2
  all_goals (first | go_ret | skip)
  all_goals exact ⟨rfl, rfl⟩
set_option maxRecDepth 100000 in
theorem end_nil (w : World) : Calls Try.prog 15 #[.pointer none] w fun e w' => e = .returned (.tuple #[.agg #[.slice none 0 0], .int .i64 2]) ∧ Kept NB w w' := by
  go_enter Try.func15, Try.ntmps15
  go_wp2
  all_goals go_returns
  all_goals exact ⟨rfl, (Kept.refl NB w).alloc _⟩
def FN (W : World) : Nat → Prop := fun r => W.heap.size ≤ r
theorem FN.all {W w : World} (K : Kept (FN W) W w) : ∀ r, w.heap.size ≤ r → FN W r := fun _r hr => Nat.le_trans K.size hr
theorem Kept.nb {S : Nat → Prop} {w w' : World} (K : Kept NB w w') : Kept S w w' := K.mono (fun _ h => h.elim)
theorem Kept.fin {w w' : World} (K : Kept (FN w) w w') : Below w.heap.size w w' := K.below (Below.refl _ w) (Nat.le_refl _) (fun _ h => h)
theorem wf_codes (code : List I3) (h : code.length ≤ 499) : Wf (code, []) := ⟨h, by simp⟩
/-- begun once more -/
theorem do_begin {F : Nat → Prop} {w : World} {p : Nat} {code : List I3} {st : List Prt} (S : BldS F w p code st) (hF : ∀ r, w.heap.size ≤ r → F r) (hW : Wf (code, st)) (h : st.length < 32) :
    Calls Try.prog 13 #[.pointer (some ⟨p, 0, none⟩), .int .i64 4] w (DoPost F w p 0 (code, ⟨1, code.length, []⟩ :: st)) ∧ Wf (code, ⟨1, code.length, []⟩ :: st) := by
  have e : ansS 4 (code, st) = 0 := by
    simp [ansS, fitsS, asksOf, laysOf, moreOf]
    omega
  have e2 : doS 4 (code, st) = (code, ⟨1, code.length, []⟩ :: st) := by
    rw [doS, if_pos e]; rfl
  have := do_st S hF hW (by omega) 4 (fun h => by cases h) (fun _ => ⟨by decide, by decide⟩)
  rw [e, e2] at this
  refine ⟨this, ?_⟩
  rw [← e2]
  exact wf_do 4 _ hW
theorem do_same {F : Nat → Prop} {w : World} {p : Nat} {code : List I3} {st : List Prt} (S : BldS F w p code st) (hF : ∀ r, w.heap.size ≤ r → F r) (hW : Wf (code, st)) (h : st.length ≤ 32) (n : Int) (h13 : n ≠ 13) {r : Int} (ha : ansS n (code, st) = r) (hr : r ≠ 0) :
    Calls Try.prog 13 #[.pointer (some ⟨p, 0, none⟩), .int .i64 n] w (DoPost F w p r (code, st)) := by
  have := do_st S hF hW h n (fun h => absurd h h13) (fun h => absurd (ha.symm.trans h) hr)
  rw [doS, ha, if_neg hr] at this
  exact this
theorem ans_full4 (q : Prt) (r : List Prt) (h : (q :: r).length = 32) : ansS 4 ([], q :: r) = -8 := by
  simp at h
  simp [ansS, fitsS, asksOf, laysOf, moreOf, h]
theorem ans_full5 (q : Prt) (r : List Prt) (hq : q.kind = 1) (h : (q :: r).length = 32) : ansS 5 ([], q :: r) = -8 := by
  simp at h
  simp [ansS, fitsS, asksOf, laysOf, moreOf, h, hq]
theorem known_or (n : Int) : (1 ≤ n ∧ n ≤ 17) ∨ (1 ≤ n ∧ ¬ n ≤ 17) ∨ ¬ 1 ≤ n := by omega
theorem ans_unknown (n : Int) (h : n < 1 ∨ 17 < n) : ansS n ([], []) = 1 := by rw [ansS, if_neg (by omega)]
theorem ans_known (n : Int) (h1 : 1 ≤ n) (h2 : n ≤ 17) : (ansS n ([], []) == 1) = false := by
  have : ansS n ([], []) ≠ 1 := by
    rw [ansS, if_pos ⟨h1, h2⟩]
    split
    · decide
    · split <;> decide
  simpa using this
set_option maxRecDepth 100000 in
set_option maxHeartbeats 16000000 in
theorem walk_FlowBounds (many : Int) (part : Int) (w0 : (Lit.int .u16 many).wf = true) (_w1 : (Lit.int .i64 part).wf = true) (w : World) :
    Calls Try.prog 8 #[.int .u16 many, .int .i64 part] w fun e w' => e = .returned (.bool true) ∧ Below w.heap.size w w' := by
  have hm : 0 ≤ many ∧ many < 65536 := by simp [Lit.wf, IntKind.min, IntKind.max, IntKind.signed, IntKind.bits] at w0; omega
  clear w0
  obtain ⟨n, hn⟩ : ∃ n : Nat, many.tmod 600 = (n : Int) := ⟨(many.tmod 600).toNat, by rw [Int.tmod_eq_emod_of_nonneg hm.1]; omega⟩
  have hn6 : n < 600 := by rw [Int.tmod_eq_emod_of_nonneg hm.1] at hn; omega
  have hw64 : IntKind.i64.wrap (n : Int) = (n : Int) := IntWalk.i64_in _ (by omega)
  have HSH := Lib.hid (shown_any w)
  clear hm
  go_enter Try.func8, Try.ntmps8
  try simp only [List.append]
  go_wp2_with fail
  refine HSH.out.mono ?_
  rintro e v1 ⟨rfl, K⟩
  have HK1 := Lib.hid (K.nb (S := FN w))
  have HN := Lib.hid (new_st (FN w) v1 (FN.all HK1.out))
  clear K
  go_wp2_with fail
  refine HN.out.mono ?_
  rintro e v2 ⟨pb, rfl, _, SB, K⟩
  have HSB := Lib.hid SB
  have HK2 := Lib.hid (HK1.out.trans K)
  clear SB K
  go_wp2_with fail
  go_loopw [23] (fun i wr => ∃ k : Nat, k ≤ n ∧ i = .int .i64 k ∧ ∃ code, code.length = min k 499 ∧ BldS (FN w) wr pb code [] ∧ Kept (FN w) w wr) (fun i _ => n - (intOf i).toNat)
  case atStart => exact ⟨0, by omega, rfl, [], rfl, HSB.out, HK2.out⟩
  case round =>
    obtain ⟨k, hk, rfl, code, hc, SB, K⟩ := hrel
    have HSB1 := Lib.hid SB
    have HK := Lib.hid K
    clear SB K
    by_cases hlt : k < n
    · by_cases h499 : k < 499
      · have HP := Lib.hid (put_st HSB1.out (FN.all HK.out) (11, 0, 0) (by omega))
        have hki : (k : Int) < 499 := by omega
        go_wp2_with fail
        refine HP.out.mono ?_
        rintro e v3 ⟨rfl, SB, K⟩
        have HSB3 := Lib.hid SB
        have HK3 := Lib.hid (HK.out.trans K)
        clear SB K
        go_wp2_with fail
        go_roundw
        case rel => exact ⟨k + 1, by omega, by go_num, code ++ [(11, 0, 0)], by simp; omega, HSB3.out, HK3.out⟩
        case measure => simp [intOf]; omega
      · have HP := Lib.hid (put_st_full HSB1.out (11, 0, 0) (by omega))
        have hki : ¬ (k : Int) < 499 := by omega
        have hki2 : (499 : Int) ≤ (k : Int) := by omega
        go_wp2_with fail
        refine HP.out.mono ?_
        rintro e v3 ⟨rfl, SB, K⟩
        have HSB3 := Lib.hid SB
        have HK3 := Lib.hid (HK.out.trans K)
        clear SB K
        go_wp2_with fail
        go_roundw
        case rel => exact ⟨k + 1, by omega, by go_num, code, by omega, HSB3.out, HK3.out⟩
        case measure => simp [intOf]; omega
    · obtain rfl : k = n := by omega
      have hWf := wf_codes code (by omega)
      by_cases h499 : k < 499
      · have hki : ¬ (499 : Int) ≤ (k : Int) := by omega
        go_wp2_with fail
        have HN2 := Lib.hid (new_st (FN w) wr (FN.all HK.out))
        refine HN2.out.mono ?_
        rintro e u1 ⟨pc, rfl, _, SC, K⟩
        have HSC := Lib.hid SC
        have HC1 := Lib.hid (HK.out.trans K)
        clear SC K
        go_wp2_with fail
        go_loopw [66] (fun i wr => ∃ j : Nat, j ≤ 32 ∧ i = .int .i64 j ∧ ∃ st, st.length = j ∧ (∀ q ∈ st, q.kind = 1) ∧ Wf ([], st) ∧ BldS (FN w) wr pc [] st ∧ Kept (FN w) w wr) (fun i _ => 32 - (intOf i).toNat)
        case atStart => exact ⟨0, by omega, rfl, [], rfl, by simp, wf_nil, HSC.out, HC1.out⟩
        case round =>
          obtain ⟨j, hj, rfl, st, hst, hkind, hwf, SC, K⟩ := hrel
          have HSC2 := Lib.hid SC
          have HC2 := Lib.hid K
          clear SC K
          by_cases hlt2 : j < 32
          · have HD := Lib.hid (do_begin HSC2.out (FN.all HC2.out) hwf (by omega))
            go_wp2_with fail
            refine HD.out.1.mono ?_
            rintro e u3 ⟨rfl, SC, K⟩
            have HSC3 := Lib.hid SC
            have HC3 := Lib.hid (HC2.out.trans K)
            clear SC K
            go_wp2_with fail
            go_roundw
            case rel => exact ⟨j + 1, by omega, by go_num, _, by simp; omega, by intro q hq; rcases List.mem_cons.1 hq with rfl | hq; rfl; exact hkind q hq, HD.out.2, HSC3.out, HC3.out⟩
            case measure => simp [intOf]; omega
          · obtain rfl : j = 32 := by omega
            obtain ⟨q, r, rfl⟩ : ∃ q r, st = q :: r := by
              cases st with
              | nil => simp at hst
              | cons q r => exact ⟨q, r, rfl⟩
            have hq1 := hkind q (by simp)
            have A4 : ansS 4 ([], q :: r) = -8 := ans_full4 q r hst
            have A5 : ansS 5 ([], q :: r) = -8 := ans_full5 q r hq1 hst
            have D4 := do_same HSC2.out (FN.all HC2.out) hwf (by omega) 4 (by decide) A4 (by decide)
            have HD4 := Lib.hid D4
            have HSTL := Lib.hid hst
            have HWF := Lib.hid hwf
            have HA5 := Lib.hid A5
            clear D4 A4 A5 hkind hq1 hst hwf
            have HEN := Lib.hid end_nil
            have HDN := Lib.hid (do_nil part)
            have HLN := Lib.hid len_nil
            have HON := Lib.hid open_nil
            clear HD4
            go_wp2_with fail
            refine (HEN.out _).mono ?_
            rintro e u4 ⟨rfl, K⟩
            have HS4 := Lib.hid ((HSC2.out.kept K (fun _ _ h => h)).alloc (.cells #[.slice none 0 0] 34))
            have HC4 := Lib.hid ((HC2.out.trans K.nb).alloc (.cells #[.slice none 0 0] 34))
            have A4 : ansS 4 ([], q :: r) = -8 := ans_full4 q r HSTL.out
            have HD4 := Lib.hid (do_same HS4.out (FN.all HC4.out) HWF.out (by have := HSTL.out; omega) 4 (by decide) A4 (by decide))
            clear K A4
            rcases known_or part with ⟨p1, p2⟩ | ⟨p1, p2⟩ | p1
            · go_wp2_with fail
              refine HD4.out.mono ?_
              rintro e u5 ⟨rfl, SC, K⟩
              have HC5 := Lib.hid (HC4.out.trans K)
              have HD5 := Lib.hid (do_same SC (FN.all HC5.out) HWF.out (by have := HSTL.out; dsimp only; omega) 5 (by decide) HA5.out (by decide))
              clear SC K
              go_wp2_with fail
              refine HD5.out.mono ?_
              rintro e u6 ⟨rfl, SC, K⟩
              have HC6 := Lib.hid (HC5.out.trans K)
              have O6 := open_st SC
              rw [HSTL.out] at O6
              have HO6 := Lib.hid O6
              have HN6 := Lib.hid (new_st (FN w) u6 (FN.all HC6.out))
              clear SC K O6
              go_wp2_with fail
              refine HO6.out.mono ?_
              rintro e u7 ⟨rfl, rfl⟩
              go_wp2_with fail
              refine HN6.out.mono ?_
              rintro e u8 ⟨pe, rfl, _, SE, K⟩
              have HC8 := Lib.hid (HC6.out.trans K)
              have D8 := do_st SE (FN.all HC8.out) wf_nil (by decide) part (fun _ => rfl) (fun h => ⟨fun h5 => by subst h5; exact absurd h (by decide), fun h5 => by subst h5; exact absurd h (by decide)⟩)
              have hr : (ansS part ([], []) == 1) = false := ans_known part p1 p2
              generalize ansS part ([], []) = rr at *
              have HD8 := Lib.hid D8
              clear SE K D8
              go_wp2_with fail
              refine HD8.out.mono ?_
              rintro e u9 ⟨rfl, _, K⟩
              have HC9 := Lib.hid (HC8.out.trans K)
              clear K
              go_wp2_with fail
              refine (HDN.out _).mono ?_
              rintro e u10 ⟨rfl, rfl⟩
              go_wp2_with fail
              refine (HLN.out _).mono ?_
              rintro e u11 ⟨rfl, rfl⟩
              go_wp2_with fail
              refine (HON.out _).mono ?_
              rintro e u12 ⟨rfl, rfl⟩
              go_wp2_with fail
              all_goals (first | go_ret | skip)
              all_goals (first | exact ⟨rfl, HC9.out.fin⟩ | exact ⟨by simp; omega, HC9.out.fin⟩)
            · go_wp2_with fail
              refine HD4.out.mono ?_
              rintro e u5 ⟨rfl, SC, K⟩
              have HC5 := Lib.hid (HC4.out.trans K)
              have HD5 := Lib.hid (do_same SC (FN.all HC5.out) HWF.out (by have := HSTL.out; dsimp only; omega) 5 (by decide) HA5.out (by decide))
              clear SC K
              go_wp2_with fail
              refine HD5.out.mono ?_
              rintro e u6 ⟨rfl, SC, K⟩
              have HC6 := Lib.hid (HC5.out.trans K)
              have O6 := open_st SC
              rw [HSTL.out] at O6
              have HO6 := Lib.hid O6
              have HN6 := Lib.hid (new_st (FN w) u6 (FN.all HC6.out))
              clear SC K O6
              go_wp2_with fail
              refine HO6.out.mono ?_
              rintro e u7 ⟨rfl, rfl⟩
              go_wp2_with fail
              refine HN6.out.mono ?_
              rintro e u8 ⟨pe, rfl, _, SE, K⟩
              have HC8 := Lib.hid (HC6.out.trans K)
              have D8 := do_st SE (FN.all HC8.out) wf_nil (by decide) part (fun _ => rfl) (fun h => ⟨fun h5 => by subst h5; exact absurd h (by decide), fun h5 => by subst h5; exact absurd h (by decide)⟩)
              rw [ans_unknown part (by omega)] at D8
              skip
              have HD8 := Lib.hid D8
              clear SE K D8
              go_wp2_with fail
              refine HD8.out.mono ?_
              rintro e u9 ⟨rfl, _, K⟩
              have HC9 := Lib.hid (HC8.out.trans K)
              clear K
              go_wp2_with fail
              refine (HDN.out _).mono ?_
              rintro e u10 ⟨rfl, rfl⟩
              go_wp2_with fail
              refine (HLN.out _).mono ?_
              rintro e u11 ⟨rfl, rfl⟩
              go_wp2_with fail
              refine (HON.out _).mono ?_
              rintro e u12 ⟨rfl, rfl⟩
              go_wp2_with fail
              all_goals (first | go_ret | skip)
              all_goals (first | exact ⟨rfl, HC9.out.fin⟩ | exact ⟨by simp; omega, HC9.out.fin⟩)
            · go_wp2_with fail
              refine HD4.out.mono ?_
              rintro e u5 ⟨rfl, SC, K⟩
              have HC5 := Lib.hid (HC4.out.trans K)
              have HD5 := Lib.hid (do_same SC (FN.all HC5.out) HWF.out (by have := HSTL.out; dsimp only; omega) 5 (by decide) HA5.out (by decide))
              clear SC K
              go_wp2_with fail
              refine HD5.out.mono ?_
              rintro e u6 ⟨rfl, SC, K⟩
              have HC6 := Lib.hid (HC5.out.trans K)
              have O6 := open_st SC
              rw [HSTL.out] at O6
              have HO6 := Lib.hid O6
              have HN6 := Lib.hid (new_st (FN w) u6 (FN.all HC6.out))
              clear SC K O6
              go_wp2_with fail
              refine HO6.out.mono ?_
              rintro e u7 ⟨rfl, rfl⟩
              go_wp2_with fail
              refine HN6.out.mono ?_
              rintro e u8 ⟨pe, rfl, _, SE, K⟩
              have HC8 := Lib.hid (HC6.out.trans K)
              have D8 := do_st SE (FN.all HC8.out) wf_nil (by decide) part (fun _ => rfl) (fun h => ⟨fun h5 => by subst h5; exact absurd h (by decide), fun h5 => by subst h5; exact absurd h (by decide)⟩)
              rw [ans_unknown part (by omega)] at D8
              skip
              have HD8 := Lib.hid D8
              clear SE K D8
              go_wp2_with fail
              refine HD8.out.mono ?_
              rintro e u9 ⟨rfl, _, K⟩
              have HC9 := Lib.hid (HC8.out.trans K)
              clear K
              go_wp2_with fail
              refine (HDN.out _).mono ?_
              rintro e u10 ⟨rfl, rfl⟩
              go_wp2_with fail
              refine (HLN.out _).mono ?_
              rintro e u11 ⟨rfl, rfl⟩
              go_wp2_with fail
              refine (HON.out _).mono ?_
              rintro e u12 ⟨rfl, rfl⟩
              go_wp2_with fail
              all_goals (first | go_ret | skip)
              all_goals (first | exact ⟨rfl, HC9.out.fin⟩ | exact ⟨by simp; omega, HC9.out.fin⟩)
      · have hki : (499 : Int) ≤ (k : Int) := by omega
        have hlen : code.length = 499 := by omega
        have A1 : ansS 1 (code, []) = -8 := by simp [ansS, fitsS, asksOf, laysOf, moreOf, hlen]
        have A8 : ansS 8 (code, [⟨1, code.length, []⟩]) = -8 := by simp [ansS, fitsS, asksOf, laysOf, moreOf, hlen]
        have HD1 := Lib.hid (do_same HSB1.out (FN.all HK.out) hWf (by decide) 1 (by decide) A1 (by decide))
        have HW := Lib.hid hWf
        have HA8 := Lib.hid A8
        clear hWf A1 A8
        go_wp2_with fail
        refine HD1.out.mono ?_
        rintro e v4 ⟨rfl, SB, K⟩
        have HK4 := Lib.hid (HK.out.trans K)
        have HD4 := Lib.hid (do_begin SB (FN.all HK4.out) HW.out (by simp))
        clear SB K
        go_wp2_with fail
        refine HD4.out.1.mono ?_
        rintro e v5 ⟨rfl, SB, K⟩
        have HK5 := Lib.hid (HK4.out.trans K)
        have HD8 := Lib.hid (do_same SB (FN.all HK5.out) HD4.out.2 (by simp) 8 (by decide) HA8.out (by decide))
        clear SB K
        go_wp2_with fail
        refine HD8.out.mono ?_
        rintro e v6 ⟨rfl, SB, K⟩
        have HK6 := Lib.hid (HK5.out.trans K)
        have HO6' := Lib.hid (open_st SB)
        clear SB K
        go_wp2_with fail
        refine HO6'.out.mono ?_
        rintro e v7 ⟨rfl, rfl⟩
        go_wp2_with fail
        have HN2 := Lib.hid (new_st (FN w) v6 (FN.all HK6.out))
        refine HN2.out.mono ?_
        rintro e u1 ⟨pc, rfl, _, SC, K⟩
        have HSC := Lib.hid SC
        have HC1 := Lib.hid (HK6.out.trans K)
        clear SC K
        go_wp2_with fail
        go_loopw [66] (fun i wr => ∃ j : Nat, j ≤ 32 ∧ i = .int .i64 j ∧ ∃ st, st.length = j ∧ (∀ q ∈ st, q.kind = 1) ∧ Wf ([], st) ∧ BldS (FN w) wr pc [] st ∧ Kept (FN w) w wr) (fun i _ => 32 - (intOf i).toNat)
        case atStart => exact ⟨0, by omega, rfl, [], rfl, by simp, wf_nil, HSC.out, HC1.out⟩
        case round =>
          obtain ⟨j, hj, rfl, st, hst, hkind, hwf, SC, K⟩ := hrel
          have HSC2 := Lib.hid SC
          have HC2 := Lib.hid K
          clear SC K
          by_cases hlt2 : j < 32
          · have HD := Lib.hid (do_begin HSC2.out (FN.all HC2.out) hwf (by omega))
            go_wp2_with fail
            refine HD.out.1.mono ?_
            rintro e u3 ⟨rfl, SC, K⟩
            have HSC3 := Lib.hid SC
            have HC3 := Lib.hid (HC2.out.trans K)
            clear SC K
            go_wp2_with fail
            go_roundw
            case rel => exact ⟨j + 1, by omega, by go_num, _, by simp; omega, by intro q hq; rcases List.mem_cons.1 hq with rfl | hq; rfl; exact hkind q hq, HD.out.2, HSC3.out, HC3.out⟩
            case measure => simp [intOf]; omega
          · obtain rfl : j = 32 := by omega
            obtain ⟨q, r, rfl⟩ : ∃ q r, st = q :: r := by
              cases st with
              | nil => simp at hst
              | cons q r => exact ⟨q, r, rfl⟩
            have hq1 := hkind q (by simp)
            have A4 : ansS 4 ([], q :: r) = -8 := ans_full4 q r hst
            have A5 : ansS 5 ([], q :: r) = -8 := ans_full5 q r hq1 hst
            have D4 := do_same HSC2.out (FN.all HC2.out) hwf (by omega) 4 (by decide) A4 (by decide)
            have HD4 := Lib.hid D4
            have HSTL := Lib.hid hst
            have HWF := Lib.hid hwf
            have HA5 := Lib.hid A5
            clear D4 A4 A5 hkind hq1 hst hwf
            have HEN := Lib.hid end_nil
            have HDN := Lib.hid (do_nil part)
            have HLN := Lib.hid len_nil
            have HON := Lib.hid open_nil
            clear HD4
            go_wp2_with fail
            refine (HEN.out _).mono ?_
            rintro e u4 ⟨rfl, K⟩
            have HS4 := Lib.hid ((HSC2.out.kept K (fun _ _ h => h)).alloc (.cells #[.slice none 0 0] 34))
            have HC4 := Lib.hid ((HC2.out.trans K.nb).alloc (.cells #[.slice none 0 0] 34))
            have A4 : ansS 4 ([], q :: r) = -8 := ans_full4 q r HSTL.out
            have HD4 := Lib.hid (do_same HS4.out (FN.all HC4.out) HWF.out (by have := HSTL.out; omega) 4 (by decide) A4 (by decide))
            clear K A4
            rcases known_or part with ⟨p1, p2⟩ | ⟨p1, p2⟩ | p1
            · go_wp2_with fail
              refine HD4.out.mono ?_
              rintro e u5 ⟨rfl, SC, K⟩
              have HC5 := Lib.hid (HC4.out.trans K)
              have HD5 := Lib.hid (do_same SC (FN.all HC5.out) HWF.out (by have := HSTL.out; dsimp only; omega) 5 (by decide) HA5.out (by decide))
              clear SC K
              go_wp2_with fail
              refine HD5.out.mono ?_
              rintro e u6 ⟨rfl, SC, K⟩
              have HC6 := Lib.hid (HC5.out.trans K)
              have O6 := open_st SC
              rw [HSTL.out] at O6
              have HO6 := Lib.hid O6
              have HN6 := Lib.hid (new_st (FN w) u6 (FN.all HC6.out))
              clear SC K O6
              go_wp2_with fail
              refine HO6.out.mono ?_
              rintro e u7 ⟨rfl, rfl⟩
              go_wp2_with fail
              refine HN6.out.mono ?_
              rintro e u8 ⟨pe, rfl, _, SE, K⟩
              have HC8 := Lib.hid (HC6.out.trans K)
              have D8 := do_st SE (FN.all HC8.out) wf_nil (by decide) part (fun _ => rfl) (fun h => ⟨fun h5 => by subst h5; exact absurd h (by decide), fun h5 => by subst h5; exact absurd h (by decide)⟩)
              have hr : (ansS part ([], []) == 1) = false := ans_known part p1 p2
              generalize ansS part ([], []) = rr at *
              have HD8 := Lib.hid D8
              clear SE K D8
              go_wp2_with fail
              refine HD8.out.mono ?_
              rintro e u9 ⟨rfl, _, K⟩
              have HC9 := Lib.hid (HC8.out.trans K)
              clear K
              go_wp2_with fail
              refine (HDN.out _).mono ?_
              rintro e u10 ⟨rfl, rfl⟩
              go_wp2_with fail
              refine (HLN.out _).mono ?_
              rintro e u11 ⟨rfl, rfl⟩
              go_wp2_with fail
              refine (HON.out _).mono ?_
              rintro e u12 ⟨rfl, rfl⟩
              go_wp2_with fail
              all_goals (first | go_ret | skip)
              all_goals (first | exact ⟨rfl, HC9.out.fin⟩ | exact ⟨by simp; omega, HC9.out.fin⟩)
            · go_wp2_with fail
              refine HD4.out.mono ?_
              rintro e u5 ⟨rfl, SC, K⟩
              have HC5 := Lib.hid (HC4.out.trans K)
              have HD5 := Lib.hid (do_same SC (FN.all HC5.out) HWF.out (by have := HSTL.out; dsimp only; omega) 5 (by decide) HA5.out (by decide))
              clear SC K
              go_wp2_with fail
              refine HD5.out.mono ?_
              rintro e u6 ⟨rfl, SC, K⟩
              have HC6 := Lib.hid (HC5.out.trans K)
              have O6 := open_st SC
              rw [HSTL.out] at O6
              have HO6 := Lib.hid O6
              have HN6 := Lib.hid (new_st (FN w) u6 (FN.all HC6.out))
              clear SC K O6
              go_wp2_with fail
              refine HO6.out.mono ?_
              rintro e u7 ⟨rfl, rfl⟩
              go_wp2_with fail
              refine HN6.out.mono ?_
              rintro e u8 ⟨pe, rfl, _, SE, K⟩
              have HC8 := Lib.hid (HC6.out.trans K)
              have D8 := do_st SE (FN.all HC8.out) wf_nil (by decide) part (fun _ => rfl) (fun h => ⟨fun h5 => by subst h5; exact absurd h (by decide), fun h5 => by subst h5; exact absurd h (by decide)⟩)
              rw [ans_unknown part (by omega)] at D8
              skip
              have HD8 := Lib.hid D8
              clear SE K D8
              go_wp2_with fail
              refine HD8.out.mono ?_
              rintro e u9 ⟨rfl, _, K⟩
              have HC9 := Lib.hid (HC8.out.trans K)
              clear K
              go_wp2_with fail
              refine (HDN.out _).mono ?_
              rintro e u10 ⟨rfl, rfl⟩
              go_wp2_with fail
              refine (HLN.out _).mono ?_
              rintro e u11 ⟨rfl, rfl⟩
              go_wp2_with fail
              refine (HON.out _).mono ?_
              rintro e u12 ⟨rfl, rfl⟩
              go_wp2_with fail
              all_goals (first | go_ret | skip)
              all_goals (first | exact ⟨rfl, HC9.out.fin⟩ | exact ⟨by simp; omega, HC9.out.fin⟩)
            · go_wp2_with fail
              refine HD4.out.mono ?_
              rintro e u5 ⟨rfl, SC, K⟩
              have HC5 := Lib.hid (HC4.out.trans K)
              have HD5 := Lib.hid (do_same SC (FN.all HC5.out) HWF.out (by have := HSTL.out; dsimp only; omega) 5 (by decide) HA5.out (by decide))
              clear SC K
              go_wp2_with fail
              refine HD5.out.mono ?_
              rintro e u6 ⟨rfl, SC, K⟩
              have HC6 := Lib.hid (HC5.out.trans K)
              have O6 := open_st SC
              rw [HSTL.out] at O6
              have HO6 := Lib.hid O6
              have HN6 := Lib.hid (new_st (FN w) u6 (FN.all HC6.out))
              clear SC K O6
              go_wp2_with fail
              refine HO6.out.mono ?_
              rintro e u7 ⟨rfl, rfl⟩
              go_wp2_with fail
              refine HN6.out.mono ?_
              rintro e u8 ⟨pe, rfl, _, SE, K⟩
              have HC8 := Lib.hid (HC6.out.trans K)
              have D8 := do_st SE (FN.all HC8.out) wf_nil (by decide) part (fun _ => rfl) (fun h => ⟨fun h5 => by subst h5; exact absurd h (by decide), fun h5 => by subst h5; exact absurd h (by decide)⟩)
              rw [ans_unknown part (by omega)] at D8
              skip
              have HD8 := Lib.hid D8
              clear SE K D8
              go_wp2_with fail
              refine HD8.out.mono ?_
              rintro e u9 ⟨rfl, _, K⟩
              have HC9 := Lib.hid (HC8.out.trans K)
              clear K
              go_wp2_with fail
              refine (HDN.out _).mono ?_
              rintro e u10 ⟨rfl, rfl⟩
              go_wp2_with fail
              refine (HLN.out _).mono ?_
              rintro e u11 ⟨rfl, rfl⟩
              go_wp2_with fail
              refine (HON.out _).mono ?_
              rintro e u12 ⟨rfl, rfl⟩
              go_wp2_with fail
              all_goals (first | go_ret | skip)
              all_goals (first | exact ⟨rfl, HC9.out.fin⟩ | exact ⟨by simp; omega, HC9.out.fin⟩)
end Go.Proofs.Ytdpoobkfhmmbjaa
