/- The walk of FlowBalance. -/
import Derived.Test.YtdpoobkfhmmbjaaShown
import Derived.Test.YtdpoobkfhmmbjaaBalP
import Derived.Deep.DeepCutAuto
namespace Go.Proofs.Ytdpoobkfhmmbjaa
open Go.RowKit
def FN (W : World) : Nat → Prop := fun r => W.heap.size ≤ r
theorem FN.all {W w : World} (K : Kept (FN W) W w) : ∀ r, w.heap.size ≤ r → FN W r := fun _r hr => Nat.le_trans K.size hr
theorem Kept.nb {S : Nat → Prop} {w w' : World} (K : Kept NB w w') : Kept S w w' := K.mono (fun _ h => h.elim)
theorem Kept.fin {w V w' : World} (K0 : Kept NB w V) (K : Kept (FN V) V w') : Below w.heap.size w w' := (K0.nb.trans (K.mono (fun _r hr => Nat.le_trans K0.size hr))).below (S := FN w) (Below.refl _ w) (Nat.le_refl _) (fun _ h => h)
theorem Kept.nbf {w V w' : World} (K : Kept (FN V) V w') (_ : Kept NB w V) : Kept NB V w' := ⟨K.os, K.tape, K.output, K.size, fun r hr _ => K.block r hr (fun h => by have : V.heap.size ≤ r := h; omega)⟩
theorem begB_ne (c : Nat) (h : c < 5) : begB c ≠ 13 ∧ begB c ≠ 5 ∧ begB c ≠ 16 := by
  match c, h with
  | 0, _ | 1, _ | 2, _ | 3, _ | 4, _ => decide
theorem endB_ne (c : Nat) (h : c < 5) : endB c ≠ 13 ∧ endB c ≠ 5 ∧ endB c ≠ 16 := by
  match c, h with
  | 0, _ | 1, _ | 2, _ | 3, _ | 4, _ => decide
def begsC : Array Value := #[.int .i64 1, .int .i64 4, .int .i64 9, .int .i64 10, .int .i64 14]
def endsC : Array Value := #[.int .i64 3, .int .i64 7, .int .i64 11, .int .i64 12, .int .i64 17]
theorem begs_get (c : Nat) (h : c < 5) : begsC[c]? = some (.int .i64 (begB c)) := by
  match c, h with
  | 0, _ | 1, _ | 2, _ | 3, _ | 4, _ => rfl
theorem ends_get (c : Nat) (h : c < 5) : endsC[c]? = some (.int .i64 (endB c)) := by
  match c, h with
  | 0, _ | 1, _ | 2, _ | 3, _ | 4, _ => rfl
/-- the part's kind number, and the word's -/
def cB (zs : List Int) (i : Nat) : Nat := ((zs.getD i 0).tmod 5).toNat
theorem cB_lt (zs : List Int) (i : Nat) (hz : ∀ n ∈ zs, 0 ≤ n ∧ n < 256) : cB zs i < 5 ∧ (zs.getD i 0).tmod 5 = (cB zs i : Int) := by
  have h : 0 ≤ zs.getD i 0 ∧ zs.getD i 0 < 256 := by
    rw [List.getD_eq_getElem?_getD]
    cases hq : zs[i]? with
    | none => simp
    | some n => exact hz n (List.mem_of_getElem? hq)
  unfold cB
  rw [Int.tmod_eq_emod_of_nonneg h.1]
  omega
def xsB (zs : List Int) (k : Nat) : List Nat := (List.range k).map (cB zs)
theorem xsB_succ (zs : List Int) (k : Nat) : xsB zs (k + 1) = xsB zs k ++ [cB zs k] := by simp [xsB, List.range_succ]
theorem xsB_length (zs : List Int) (k : Nat) : (xsB zs k).length = k := by simp [xsB]
instance (k c : Nat) : Decidable (mineB k c) := by unfold mineB; infer_instance
theorem Inv.mono {xs : List Nat} {s : St} {b b' : Nat} (I : Inv xs s b) (h : b ≤ b') : Inv xs s b' := ⟨I.kinds, Nat.le_trans I.len h, I.wf⟩
theorem do_same {F : Nat → Prop} {w : World} {p : Nat} {code : List I3} {st : List Prt} (S : BldS F w p code st) (hF : ∀ r, w.heap.size ≤ r → F r) (hW : Wf (code, st)) (h : st.length ≤ 32) (n : Int) (h13 : n ≠ 13) {r : Int} (ha : ansS n (code, st) = r) (hr : r ≠ 0) :
    Calls Try.prog 13 #[.pointer (some ⟨p, 0, none⟩), .int .i64 n] w (DoPost F w p r (code, st)) := by
  have := do_st S hF hW h n (fun h => absurd h h13) (fun h => absurd (ha.symm.trans h) hr)
  rw [doS, ha, if_neg hr] at this
  exact this
theorem mineB_cases (k c : Nat) : (mineB k c ∧ k = c) ∨ (¬ mineB k c ∧ k ≠ c ∧ k < 2) ∨ (¬ mineB k c ∧ k ≠ c ∧ ¬ k < 2 ∧ ¬ k < 4) ∨ (¬ mineB k c ∧ k ≠ c ∧ ¬ k < 2 ∧ k < 4 ∧ c < 2) ∨ (¬ mineB k c ∧ k ≠ c ∧ ¬ k < 2 ∧ k < 4 ∧ ¬ c < 2 ∧ ¬ c < 4) ∨ (mineB k c ∧ k ≠ c ∧ ¬ k < 2 ∧ k < 4 ∧ ¬ c < 2 ∧ c < 4) := by
  unfold mineB; omega
theorem cell_far {w w' : World} {S : Nat → Prop} (K : Kept S w w') (a : Addr) (v : Value) (h : w.cell? a = some v) (hs : ¬ S a.block) : w'.cell? a = some v := by
  have hlt : a.block < w.heap.size := by
    unfold World.cell? at h
    cases hb : w.heap[a.block]? with
    | none => rw [hb] at h; simp at h
    | some o => exact (Array.getElem?_eq_some_iff.1 hb).1
  exact (World.cell?_of_block (K.block a.block hlt hs)).trans h
set_option maxRecDepth 100000 in
set_option maxHeartbeats 16000000 in
theorem balance_some (x : Addr) (len0 cap0 : Nat) (zs : List Int) (w : World) (hlc : len0 ≤ cap0) (_hcm : cap0 ≤ maxLen) (hzl : zs.length = cap0) (hz : ∀ i, i < zs.length → w.cell? (x.add i) = some (.int .u8 (zs.getD i 0))) (hzb : ∀ n ∈ zs, 0 ≤ n ∧ n < 256) :
    Calls Try.prog 7 #[.slice (some x) len0 cap0] w fun e w' => e = .returned (.bool true) ∧ Below w.heap.size w w' := by
  have HSH := Lib.hid (shown_any w)
  obtain ⟨m, hm⟩ : ∃ m : Nat, m = min len0 30 := ⟨_, rfl⟩
  have hmin : (if (30 : Int) < (len0 : Int) then (30 : Int) else (len0 : Int)) = (m : Int) := by split <;> omega
  have hm30 : m ≤ 30 := by omega
  have hmc : m ≤ cap0 := by omega
  have HZ := Lib.hid hz
  have HZB := Lib.hid hzb
  have HZL := Lib.hid hzl
  clear hz hzb hzl hm
  go_enter Try.func7, Try.ntmps7
  try simp only [List.append]
  go_wp2_with fail
  refine HSH.out.mono ?_
  rintro e v1 ⟨rfl, K⟩
  obtain ⟨V, hV⟩ : ∃ V, (v1.alloc (.cells begsC 3)).alloc (.cells endsC 3) = V := ⟨_, rfl⟩
  have HBG := Lib.hid (show V.heap[v1.heap.size]? = some (.cells begsC 3 (0, 0)) by rw [← hV]; exact (Below.heap_alloc _ _ _ (by simp)).trans (MapKept.heap_alloc v1 _).1)
  have HEN := Lib.hid (show V.heap[v1.heap.size + 1]? = some (.cells endsC 3 (0, 0)) by rw [← hV]; exact box2_new (S := NB) v1 _ _ _ (Kept.refl _ _) (fun h => h))
  have HK0 := Lib.hid (show Kept NB w V by rw [← hV]; exact (K.alloc _).alloc _)
  have HN := Lib.hid (new_st (FN V) V (fun r h => h))
  have hVs : V.heap.size = v1.heap.size + 2 := by rw [← hV]; simp
  unfold begsC endsC at hV
  clear K
  go_wp2_with fail
  refine HN.out.mono ?_
  rintro e v2 ⟨pb, rfl, _, SB, K⟩
  have HSB := Lib.hid SB
  have HK2 := Lib.hid K
  clear SB K hV
  go_wp2_with fail
  go_loopw [32] (fun i wr => ∃ k : Nat, k ≤ m ∧ i = .int .i64 k ∧ ∃ s : St, Inv (xsB zs k) s k ∧ BldS (FN V) wr pb s.1 s.2 ∧ Kept (FN V) V wr) (fun i _ => m - (intOf i).toNat)
  case atStart => exact ⟨0, by omega, rfl, ([], []), ⟨rfl, by simp, wf_nil⟩, HSB.out, HK2.out⟩
  case round =>
    obtain ⟨k, hk, rfl, s, hI, SB, K⟩ := hrel
    have HSB1 := Lib.hid SB
    have HK := Lib.hid K
    have HI := Lib.hid hI
    clear SB hI
    by_cases hlt : k < m
    · have hcb := cB_lt zs k HZB.out
      have hkz : k < zs.length := by have := HZL.out; omega
      have z0 := cell_far (HK0.out.trans (K.nbf HK0.out)) _ _ (HZ.out k hkz) (fun h => h)
      have hbg : wr.cell? ⟨v1.heap.size, cB zs k, none⟩ = some (.int .i64 (begB (cB zs k))) := by
        rw [cell_block ((K.block v1.heap.size (by omega) (fun h => by have : V.heap.size ≤ v1.heap.size := h; omega)).trans HBG.out)]
        exact begs_get _ hcb.1
      have hst := open_step HI.out (by rw [xsB_length]; omega) (by omega) (cB zs k) hcb.1
      have D := do_st HSB1.out (FN.all HK.out) HI.out.wf (by have := HI.out.length; rw [xsB_length] at this; omega) (begB (cB zs k)) (fun h => absurd h (begB_ne _ hcb.1).1) (fun _ => (begB_ne _ hcb.1).2)
      rw [show ansS (begB (cB zs k)) (s.1, s.2) = 0 from hst.1] at D
      have HD := Lib.hid D
      have HST := Lib.hid hst.2
      have hct := hcb.2
      have hc5 := hcb.1
      have hc5i : ((cB zs k : Nat) : Int) < 5 := by omega
      clear D hst K hcb
      generalize hzz : zs.getD k 0 = z at *
      generalize begB (cB zs k) = bg at *
      generalize hcc : cB zs k = c at *
      clear hzz
      go_wp2_with fail
      refine HD.out.mono ?_
      rintro e v3 ⟨rfl, SB, K⟩
      have HK3 := Lib.hid (HK.out.trans K)
      have HSB3 := Lib.hid SB
      have O := open_st SB
      rw [HST.out.length, List.length_append, xsB_length] at O
      have HO := Lib.hid O
      clear SB K O
      go_wp2_with fail
      refine HO.out.mono ?_
      rintro e v4 ⟨rfl, rfl⟩
      go_wp2_with fail
      go_roundw
      case rel => exact ⟨k + 1, by omega, by go_num, _, by rw [xsB_succ, hcc]; exact HST.out, HSB3.out, HK3.out⟩
      case measure => simp [intOf]; omega
    · obtain rfl : k = m := by omega
      clear hmin
      have hwm : wrap64 ((k : Int) - 1) = (k : Int) - 1 := wrap64_in _ (by omega)
      clear K
      go_wp2_with fail
      clear hwm
      go_loopw [10] (fun i wr => ∃ (y : Int) (j : Nat), i = .int .i64 y ∧ y + 1 = j ∧ j ≤ k ∧ ∃ s : St, Inv (xsB zs j) s (k + (k - j)) ∧ BldS (FN V) wr pb s.1 s.2 ∧ Kept (FN V) V wr) (fun i _ => (intOf i + 1).toNat)
      case atStart => exact ⟨(k : Int) - 1, k, rfl, by omega, by omega, s, HI.out.mono (by omega), HSB1.out, HK.out⟩
      case round =>
        clear HI HSB1 HK
        obtain ⟨y, j, rfl, hy, hj, s, hI, SB, K⟩ := hrel
        have HSB1 := Lib.hid SB
        have HK := Lib.hid K
        have HI := Lib.hid hI
        clear SB hI K
        by_cases hj0 : 0 < j
        · obtain ⟨i, rfl⟩ : ∃ i, j = i + 1 := ⟨j - 1, by omega⟩
          obtain rfl : y = (i : Int) := by omega
          clear hy hj0
          go_wp2_with fail
          go_loopw [62] (fun t wr' => ∃ q : Nat, q ≤ 5 ∧ t = .int .i64 q ∧ BldS (FN V) wr' pb s.1 s.2 ∧ Kept (FN V) V wr') (fun t _ => 5 - (intOf t).toNat)
          case atStart => exact ⟨0, by omega, rfl, HSB1.out, HK.out⟩
          case round =>
            clear HSB1 HK
            obtain ⟨q, hq, rfl, SB, K⟩ := hrel
            have HSB1 := Lib.hid SB
            have HK := Lib.hid K
            clear SB
            have hI2 := HI.out
            rw [xsB_succ] at hI2
            have hcb := cB_lt zs i HZB.out
            have hkz : i < zs.length := by have := HZL.out; omega
            by_cases hq5 : q < 5
            · have z0 := cell_far (HK0.out.trans (K.nbf HK0.out)) _ _ (HZ.out i hkz) (fun h => h)
              have hen : wr.cell? ⟨v1.heap.size + 1, q, none⟩ = some (.int .i64 (endB q)) := by
                rw [cell_block ((K.block (v1.heap.size + 1) (by omega) (fun h => by have : V.heap.size ≤ v1.heap.size + 1 := h; omega)).trans HEN.out)]
                exact ends_get _ hq5
              have hct := hcb.2
              have hc5 := hcb.1
              have hcase := mineB_cases q (cB zs i)
              have HOTH := Lib.hid (fun h => close_other (k := q) hI2 hcb.1 hq5 h)
              have hsl := HI.out.length
              rw [xsB_length] at hsl
              have HSL := Lib.hid hsl
              have hqne := endB_ne q hq5
              have HDO := Lib.hid (fun h => do_same HSB1.out (FN.all HK.out) HI.out.wf (by omega) (endB q) hqne.1 (HOTH.out h) (by decide))
              have O := fun w' (S : BldS (FN V) w' pb s.1 s.2) => open_st S
              rw [hsl] at O
              have HO := Lib.hid O
              clear K hcb hI2 hsl hqne O hkz
              have hwc : IntKind.i64.wrap ((cB zs i : Nat) : Int) = ((cB zs i : Nat) : Int) := IntWalk.i64_in _ (by omega)
              generalize hzz : zs.getD i 0 = z at *
              generalize endB q = eq at *
              generalize hcc : cB zs i = c at *
              clear hzz
              obtain ⟨mb, hmb⟩ : ∃ mb : Bool, mb = decide (mineB q c) := ⟨_, rfl⟩
              have hc5i : (c : Int) < 5 := by omega
              go_upto_region 20 with fail
              go_cut [13] from 63 to 98 (fun s6 wx => s6 = .bool mb ∧ wr = wx)
              case first =>
                rcases hcase with ⟨hm, h1⟩ | ⟨hm, h1, h2⟩ | ⟨hm, h1, h2, h3⟩ | ⟨hm, h1, h2, h3, h4⟩ | ⟨hm, h1, h2, h3, h4, h5⟩ | ⟨hm, h1, h2, h3, h4, h5⟩
                · have g1 : ((q : Int) == (c : Int)) = true := by subst h1; simp
                  obtain rfl : mb = true := by rw [hmb]; simpa using hm
                  clear hm h1 hmb
                  go_wp2_with fail
                  go_meet
                  exact ⟨rfl, rfl⟩
                · have g1 : ((q : Int) == (c : Int)) = false := by simp; omega
                  have g2 : ¬ (2 : Int) ≤ (q : Int) := by omega
                  obtain rfl : mb = false := by rw [hmb]; simpa using hm
                  clear hm h1 hmb
                  go_wp2_with fail
                  go_meet
                  exact ⟨rfl, rfl⟩
                · have g1 : ((q : Int) == (c : Int)) = false := by simp; omega
                  have g2 : (2 : Int) ≤ (q : Int) := by omega
                  have g3 : ¬ (q : Int) < 4 := by omega
                  obtain rfl : mb = false := by rw [hmb]; simpa using hm
                  clear hm h1 hmb
                  go_wp2_with fail
                  go_meet
                  exact ⟨rfl, rfl⟩
                · have g1 : ((q : Int) == (c : Int)) = false := by simp; omega
                  have g2 : (2 : Int) ≤ (q : Int) := by omega
                  have g3 : (q : Int) < 4 := by omega
                  have g4 : ¬ (2 : Int) ≤ (c : Int) := by omega
                  obtain rfl : mb = false := by rw [hmb]; simpa using hm
                  clear hm h1 hmb
                  go_wp2_with fail
                  go_meet
                  exact ⟨rfl, rfl⟩
                · have g1 : ((q : Int) == (c : Int)) = false := by simp; omega
                  have g2 : (2 : Int) ≤ (q : Int) := by omega
                  have g3 : (q : Int) < 4 := by omega
                  have g4 : (2 : Int) ≤ (c : Int) := by omega
                  have g5 : ¬ (c : Int) < 4 := by omega
                  obtain rfl : mb = false := by rw [hmb]; simpa using hm
                  clear hm h1 hmb
                  go_wp2_with fail
                  go_meet
                  exact ⟨rfl, rfl⟩
                · have g1 : ((q : Int) == (c : Int)) = false := by simp; omega
                  have g2 : (2 : Int) ≤ (q : Int) := by omega
                  have g3 : (q : Int) < 4 := by omega
                  have g4 : (2 : Int) ≤ (c : Int) := by omega
                  have g5 : (c : Int) < 4 := by omega
                  obtain rfl : mb = true := by rw [hmb]; simpa using hm
                  clear hm h1 hmb
                  go_wp2_with fail
                  go_meet
                  exact ⟨rfl, rfl⟩
              case rest =>
                obtain ⟨rfl, rfl⟩ := hcut
                clear z0 hct hwc hcase
                by_cases hm : mineB q c
                · obtain rfl : mb = true := by rw [hmb]; simpa using hm
                  clear hmb
                  go_wp2_with fail
                  go_roundw
                  case rel => exact ⟨q + 1, by omega, by go_num, HSB1.out, HK.out⟩
                  case measure => simp [intOf]; omega
                · obtain rfl : mb = false := by rw [hmb]; simpa using hm
                  replace HDO := Lib.hid (HDO.out hm)
                  clear hmb hm
                  go_wp2_with fail
                  refine HDO.out.mono ?_
                  rintro e t6 ⟨rfl, SB6, K6⟩
                  have HSB6 := Lib.hid SB6
                  have HK6 := Lib.hid (HK.out.trans K6)
                  clear SB6 K6
                  go_wp2_with fail
                  refine (HO.out _ HSB6.out).mono ?_
                  rintro e t7 ⟨rfl, rfl⟩
                  go_wp2_with fail
                  go_roundw
                  case rel => exact ⟨q + 1, by omega, by go_num, HSB6.out, HK6.out⟩
                  case measure => simp [intOf]; omega
            · obtain rfl : q = 5 := by omega
              clear hq5 hq
              have hcl := close_mine hI2 hcb.1 (by omega)
              have hsl := HI.out.length
              rw [xsB_length] at hsl
              have HSL := Lib.hid hsl
              have HL := Lib.hid (fun w' (S : BldS (FN V) w' pb s.1 s.2) => len_st S)
              have HE := Lib.hid (end_st_open HSB1.out (by omega) (by omega))
              have hcm := endB_ne _ hcb.1
              have HCL := Lib.hid hcl
              have HCM := Lib.hid hcm
              have hct := hcb.2
              have hc5 := hcb.1
              have HCC := Lib.hid hcb.1
              have HKZ := Lib.hid hkz
              have hc5i : ((cB zs i : Nat) : Int) < 5 := by omega
              have hwi : wrap64 ((i : Int) - 1) = (i : Int) - 1 := wrap64_in _ (by omega)
              clear K hI2 hcl hsl hcm hcb hkz
              go_wp2_with fail
              refine (HL.out _ HSB1.out).mono ?_
              rintro e t1 ⟨rfl, rfl⟩
              go_wp2_with fail
              refine HE.out.mono ?_
              rintro e t2 ⟨rfl, SB2, K2⟩
              have HSB2 := Lib.hid (SB2.alloc (.cells #[.slice none 0 0] 34))
              have HKA := Lib.hid ((HK.out.trans K2).alloc (.cells #[.slice none 0 0] 34))
              have z0 := cell_far (HK0.out.trans (HKA.out.nbf HK0.out)) _ _ (HZ.out i HKZ.out) (fun h => h)
              have hen : (t2.alloc (.cells #[.slice none 0 0] 34)).cell? ⟨v1.heap.size + 1, cB zs i, none⟩ = some (.int .i64 (endB (cB zs i))) := by
                rw [cell_block ((HKA.out.block (v1.heap.size + 1) (by omega) (fun h => by have : V.heap.size ≤ v1.heap.size + 1 := h; omega)).trans HEN.out)]
                exact ends_get _ HCC.out
              have D := do_st HSB2.out (FN.all HKA.out) HI.out.wf (by have := HSL.out; omega) (endB (cB zs i)) (fun h => absurd h HCM.out.1) (fun _ => HCM.out.2)
              rw [show ansS (endB (cB zs i)) (s.1, s.2) = 0 from HCL.out.1] at D
              have HD := Lib.hid D
              have HNX := Lib.hid HCL.out.2
              clear D SB2 K2 HCL
              generalize zs.getD i 0 = z at *
              generalize endB (cB zs i) = eq at *
              generalize cB zs i = c at *
              go_wp2_with fail
              refine (HL.out _ HSB2.out).mono ?_
              rintro e t3 ⟨rfl, rfl⟩
              go_wp2_with fail
              refine HD.out.mono ?_
              rintro e t4 ⟨rfl, SB4, K4⟩
              have HSB4 := Lib.hid SB4
              have HK4 := Lib.hid (HKA.out.trans K4)
              have O := open_st SB4
              rw [HNX.out.length, xsB_length] at O
              have HO := Lib.hid O
              clear SB4 K4 O
              go_wp2_with fail
              refine HO.out.mono ?_
              rintro e t5 ⟨rfl, rfl⟩
              go_wp2_with fail
              go_roundw
              case rel => exact ⟨(i : Int) - 1, i, rfl, by omega, by omega, _, HNX.out.mono (by omega), HSB4.out, HK4.out⟩
              case measure => simp [intOf]
        · obtain rfl : j = 0 := by omega
          obtain rfl : y = -1 := by omega
          obtain ⟨cd, st⟩ := s
          obtain rfl : st = [] := by
            have := HI.out.length
            rw [xsB_length] at this
            exact List.length_eq_zero_iff.1 this
          have hcl := HI.out.len
          dsimp only at hcl
          have HE := Lib.hid (end_st HSB1.out (FN.all HK.out) (by dsimp only; omega))
          dsimp only at HE
          have HCD := Lib.hid (codeV_get (cd ++ [(15, 0, 0)]) cd.length (15, 0, 0) (by simp))
          have hwn : wrap64 ((cd.length : Int)) = (cd.length : Int) := wrap64_in _ (by omega)
          clear hy hj0
          go_wp2_with fail
          refine HE.out.mono ?_
          rintro e t1 ⟨g, gc, rfl, hrow, SB, hg, K⟩
          have HSB2 := Lib.hid ((SB.mono (G := FN V) (fun r hr => hr.1)).alloc (.cells #[.slice (some ⟨g, 0, none⟩) (cd.length + 1) gc] 34))
          have HKA := Lib.hid ((HK.out.trans K).alloc (.cells #[.slice (some ⟨g, 0, none⟩) (cd.length + 1) gc] 34))
          obtain ⟨g', hg', i0, _⟩ := owns_cell (owns_kept hrow ((Kept.refl (fun _ => False) t1).alloc (.cells #[.slice (some ⟨g, 0, none⟩) (cd.length + 1) gc] 34)) (fun _ _ h => h)) HCD.out.1
          cases hg'
          have HL := Lib.hid (len_st HSB2.out)
          have HD2 := Lib.hid (do_same HSB2.out (FN.all HKA.out) wf_nil (by decide) 2 (by decide) (show ansS 2 ([], []) = -22 from rfl) (by decide))
          clear SB K hrow hg
          go_wp2_with fail
          refine HL.out.mono ?_
          rintro e t2 ⟨rfl, rfl⟩
          go_wp2_with fail
          refine HD2.out.mono ?_
          rintro e t3 ⟨rfl, SB, K⟩
          have HK3 := Lib.hid (HKA.out.trans K)
          have D3 : Calls Try.prog 13 #[.pointer (some ⟨pb, 0, none⟩), .int .i64 13] t3 (DoPost (FN V) t3 pb (-22) ([], [])) := do_st SB (FN.all HK3.out) wf_nil (by decide) 13 (fun _ => rfl) (by decide)
          have HD3 := Lib.hid D3
          clear SB K D3
          go_wp2_with fail
          refine HD3.out.mono ?_
          rintro e t4 ⟨rfl, _, K⟩
          have HK4 := Lib.hid (HK3.out.trans K)
          clear K
          go_wp2_with fail
          all_goals (first | go_ret | skip)
          all_goals exact ⟨rfl, HK0.out.fin HK4.out⟩
set_option maxRecDepth 100000 in
set_option maxHeartbeats 16000000 in
theorem balance_nil (w : World) : Calls Try.prog 7 #[.slice none 0 0] w fun e w' => e = .returned (.bool true) ∧ Below w.heap.size w w' := by
  have HSH := Lib.hid (shown_any w)
  go_enter Try.func7, Try.ntmps7
  try simp only [List.append]
  go_wp2_with fail
  refine HSH.out.mono ?_
  rintro e v1 ⟨rfl, K⟩
  obtain ⟨V, hV⟩ : ∃ V, (v1.alloc (.cells begsC 3)).alloc (.cells endsC 3) = V := ⟨_, rfl⟩
  have HK0 := Lib.hid (show Kept NB w V by rw [← hV]; exact (K.alloc _).alloc _)
  have HN := Lib.hid (new_st (FN V) V (fun r h => h))
  unfold begsC endsC at hV
  clear K
  go_wp2_with fail
  refine HN.out.mono ?_
  rintro e v2 ⟨pb, rfl, _, SB, K⟩
  have HSB := Lib.hid SB
  have HK2 := Lib.hid K
  clear SB K hV
  go_wp2_with fail
  go_loopw [32] (fun i wr => i = .int .i64 0 ∧ BldS (FN V) wr pb [] [] ∧ Kept (FN V) V wr) (fun _ _ => 0)
  case atStart => exact ⟨rfl, HSB.out, HK2.out⟩
  case round =>
    obtain ⟨rfl, SB, K⟩ := hrel
    have HSB1 := Lib.hid SB
    have HK := Lib.hid K
    clear SB K
    go_wp2_with fail
    go_loopw [10] (fun i wr => i = .int .i64 (-1) ∧ BldS (FN V) wr pb [] [] ∧ Kept (FN V) V wr) (fun _ _ => 0)
    case atStart => exact ⟨rfl, HSB1.out, HK.out⟩
    case round =>
      clear HSB1 HK
      obtain ⟨rfl, SB, K⟩ := hrel
      have HSB1 := Lib.hid SB
      have HK := Lib.hid K
      clear SB K
      have HE := Lib.hid (end_st HSB1.out (FN.all HK.out) (by decide))
      have HCD := Lib.hid (codeV_get ([] ++ [(15, 0, 0)]) 0 (15, 0, 0) (by simp))
      go_wp2_with fail
      refine HE.out.mono ?_
      rintro e t1 ⟨g, gc, rfl, hrow, SB, hg, K⟩
      have HSB2 := Lib.hid ((SB.mono (G := FN V) (fun r hr => hr.1)).alloc (.cells #[.slice (some ⟨g, 0, none⟩) (0 + 1) gc] 34))
      have HKA := Lib.hid ((HK.out.trans K).alloc (.cells #[.slice (some ⟨g, 0, none⟩) (0 + 1) gc] 34))
      obtain ⟨g', hg', i0, _⟩ := owns_cell (owns_kept hrow ((Kept.refl (fun _ => False) t1).alloc (.cells #[.slice (some ⟨g, 0, none⟩) (0 + 1) gc] 34)) (fun _ _ h => h)) HCD.out.1
      cases hg'
      have HL := Lib.hid (len_st HSB2.out)
      have HD2 := Lib.hid (do_same HSB2.out (FN.all HKA.out) wf_nil (by decide) 2 (by decide) (show ansS 2 ([], []) = -22 from rfl) (by decide))
      clear SB K hrow hg
      go_wp2_with fail
      refine HL.out.mono ?_
      rintro e t2 ⟨rfl, rfl⟩
      go_wp2_with fail
      refine HD2.out.mono ?_
      rintro e t3 ⟨rfl, SB, K⟩
      have HK3 := Lib.hid (HKA.out.trans K)
      have D3 : Calls Try.prog 13 #[.pointer (some ⟨pb, 0, none⟩), .int .i64 13] t3 (DoPost (FN V) t3 pb (-22) ([], [])) := do_st SB (FN.all HK3.out) wf_nil (by decide) 13 (fun _ => rfl) (by decide)
      have HD3 := Lib.hid D3
      clear SB K D3
      go_wp2_with fail
      refine HD3.out.mono ?_
      rintro e t4 ⟨rfl, _, K⟩
      have HK4 := Lib.hid (HK3.out.trans K)
      clear K
      go_wp2_with fail
      all_goals (first | go_ret | skip)
      all_goals exact ⟨rfl, HK0.out.fin HK4.out⟩
theorem walk_FlowBalance (a0 : Option Addr) (len0 cap0 : Nat) (z0 : List Int) (w : World) (w0 : (a0 = none ∧ len0 = 0 ∧ cap0 = 0 ∧ z0 = []) ∨
    ∃ x, a0 = some x ∧ len0 ≤ cap0 ∧ cap0 ≤ maxLen ∧ z0.length = cap0 ∧ (∀ i, i < z0.length → w.cell? (x.add i) = some (.int .u8 (z0.getD i 0))) ∧ ∀ n ∈ z0, (Lit.int .u8 n).wf = true) :
    Calls Try.prog 7 #[.slice a0 len0 cap0] w fun e w' => e = .returned (.bool true) ∧ Below w.heap.size w w' := by
  rcases w0 with ⟨rfl, rfl, rfl, rfl⟩ | ⟨x, rfl, h1, h2, h3, h4, h5⟩
  · exact balance_nil w
  · refine balance_some x len0 cap0 z0 w h1 h2 h3 h4 (fun n hn => ?_)
    have := h5 n hn
    simp [Lit.wf, IntKind.min, IntKind.max, IntKind.signed, IntKind.bits] at this
    omega
end Go.Proofs.Ytdpoobkfhmmbjaa
