/- The walks of FlowPlaces's two functions: made, and num. -/
import Derived.Test.YtdpoobkfhmmbjaaShown
import Derived.Test.YtdpoobkfhmmbjaaDoAll
namespace Go.Proofs.Ytdpoobkfhmmbjaa
open Go.RowKit
def FN (W : World) : Nat → Prop := fun r => W.heap.size ≤ r
theorem FN.all {W w : World} (K : Kept (FN W) W w) : ∀ r, w.heap.size ≤ r → FN W r := fun _r hr => Nat.le_trans K.size hr
theorem Kept.nb {S : Nat → Prop} {w w' : World} (K : Kept NB w w') : Kept S w w' := K.mono (fun _ h => h.elim)
theorem FN.new {w w' : World} (K : Kept (FN w) w w') : Kept NB w w' := K.new
/-- so many drops -/
def putK : Nat → St → St
  | 0, s => s
  | j + 1, s => ((putK j s).1 ++ [(11, 0, 0)], (putK j s).2)
def stM (ns : List Int) (k : Nat) : Nat → St
  | 0 => ([], [])
  | i + 1 => putK k (doS (ns.getD i 0) (stM ns k i))
theorem putK_len (j : Nat) (s : St) : (putK j s).1.length = s.1.length + j ∧ (putK j s).2 = s.2 := by
  induction j with
  | zero => exact ⟨rfl, rfl⟩
  | succ j ih => simp [putK, ih]; omega
theorem wf_putK (j : Nat) (s : St) (h : Wf s) (hl : s.1.length + j ≤ 499) : Wf (putK j s) := by
  induction j with
  | zero => exact h
  | succ j ih =>
    have := putK_len j s
    exact wf_put _ (ih (by omega)) (by omega) (11, 0, 0)
theorem act_len (n : Nat) (a : Int) (s : St) : (actS n a s).1.length = s.1.length := by
  obtain ⟨c, st⟩ := s
  unfold actS
  split <;> simp_all [setA_length, closeG_length]
theorem do_len (n : Int) (s : St) : (doS n s).1.length ≤ s.1.length + 1 := by
  unfold doS
  split
  · rw [act_len]; exact (laid_length _ _).2.1
  · omega
theorem stM_ok (ns : List Int) (k : Nat) (hk : k ≤ 5) (i : Nat) (hi : i ≤ 9) : Wf (stM ns k i) ∧ (stM ns k i).1.length ≤ i * (k + 1) ∧ (stM ns k i).2.length ≤ 32 := by
  induction i with
  | zero => exact ⟨wf_nil, by simp [stM], by simp [stM]⟩
  | succ i ih =>
    obtain ⟨h1, h2, h3⟩ := ih (by omega)
    have hl := do_len (ns.getD i 0) (stM ns k i)
    have hp := putK_len k (doS (ns.getD i 0) (stM ns k i))
    have hm : i * (k + 1) ≤ 8 * 6 := Nat.mul_le_mul (by omega) (by omega)
    refine ⟨wf_putK _ _ (wf_do _ _ h1) (by omega), ?_, ?_⟩
    · show (putK k _).1.length ≤ _
      rw [hp.1, Nat.succ_mul]
      omega
    · show (putK k _).2.length ≤ _
      rw [hp.2]
      exact do_deep _ _ h3
/-- is an instruction told? -/
def toldB (D : List I3) (last : Int) (k i : Nat) : Bool := (D.getD i (0, 0, 0)).1 != 11 || (decide ((i : Int) = (D.length : Int) - 2 - k) && last == 17)
def outN (D : List I3) (last : Int) (k : Nat) : Nat → ByteArray
  | 0 => ⟨#[]⟩
  | i + 1 => if toldB D last k i = true then outN D last k i ++ (textN [D.getD i (0, 0, 0)] 1 ++ sp) else outN D last k i
theorem outN_size (D : List I3) (last : Int) (k : Nat) (hD : ∀ x ∈ D, Tellable x) (i : Nat) (hi : i ≤ D.length) : (outN D last k i).size ≤ 11 * i := by
  induction i with
  | zero => exact Nat.le_refl _
  | succ i ih =>
    have := ih (by omega)
    unfold outN
    split
    · have hx : D.getD i (0, 0, 0) ∈ D := by
        rw [List.getD_eq_getElem?_getD, List.getElem?_eq_getElem (show i < D.length by omega)]
        exact List.getElem_mem _
      have h1 := textN_size [D.getD i (0, 0, 0)] (by intro y hy; simp at hy; subst hy; exact hD _ hx) 1
      have h2 : sp.size = 1 := rfl
      simp only [ByteArray.size_append]
      omega
    · omega
theorem cell_farN {w w' : World} {S : Nat → Prop} (K : Kept S w w') (a : Addr) (v : Value) (h : w.cell? a = some v) (hs : ∀ r, r < w.heap.size → ¬ S r := by intro r h1 h2; unfold FN at h2; omega) : w'.cell? a = some v := by
  have hlt : a.block < w.heap.size := by
    unfold World.cell? at h
    cases hb : w.heap[a.block]? with
    | none => rw [hb] at h; simp at h
    | some o => exact (Array.getElem?_eq_some_iff.1 hb).1
  exact (World.cell?_of_block (K.block a.block hlt (hs _ hlt))).trans h
def numS (n : Nat) : ByteArray := (textN [(4, (n : Int), 0)] 1).extract 5 (textN [(4, (n : Int), 0)] 1).size
theorem row1 (w : World) (a b c : Int) : (w.alloc (.cells #[.int .u8 a, .int .i64 b, .int .i64 c] 31)).ownsRow 0 31 3 (.slice (some ⟨w.heap.size, 0, none⟩) [((a, b, c) : I3)].length 1) [((a, b, c) : I3)].length (codeV [(a, b, c)]) :=
  ⟨rfl, .inr ⟨w.heap.size, 1, #[.int .u8 a, .int .i64 b, .int .i64 c], rfl, Nat.zero_le _, (MapKept.heap_alloc w _).1, Nat.le_refl _, by simp [maxLen], rfl, rfl⟩⟩
set_option maxRecDepth 100000 in
theorem num_any (n : Nat) (hn : n < 24) (w : World) : Calls Try.prog 17 #[.int .i64 n] w fun e w' => e = .returned (.string (numS n)) ∧ Kept NB w w' := by
  have HT := text_any [(4, (n : Int), 0)] (by intro x hx; simp at hx; subst hx; exact ⟨by simp, by simp, by simp, by simp; omega⟩) (.slice (some ⟨w.heap.size, 0, none⟩) 1 1) (w.alloc (.cells #[.int .u8 4, .int .i64 (n : Int), .int .i64 0] 31)) (by simp) (row1 w 4 n 0)
  rw [show ([(4, (n : Int), 0)] : List I3).length = 1 from rfl] at HT
  have hsz := textN_size [(4, (n : Int), 0)] (by intro x hx; simp at hx; subst hx; exact ⟨by simp, by simp, by simp, by simp; omega⟩) 1
  have hs5 : 5 ≤ (textN [(4, (n : Int), 0)] 1).size := by
    have e : textN [(4, (n : Int), 0)] 1 = nameOf 4 ++ sp ++ txt n := rfl
    rw [e, ByteArray.size_append, ByteArray.size_append]
    have h1 : (nameOf 4).size = 4 := rfl
    have h2 : sp.size = 1 := rfl
    omega
  unfold numS
  generalize textN [(4, (n : Int), 0)] 1 = T at *
  have HTT := Lib.hid HT
  have HK := Lib.hid ((Kept.refl NB w).alloc (.cells #[.int .u8 4, .int .i64 (n : Int), .int .i64 0] 31))
  clear HT
  go_enter Try.func17, Try.ntmps17
  go_wp2_with (go_at_call 16; refine HTT.out.mono ?_; rintro e w1 ⟨rfl, K⟩
               have HK1 := Lib.hid (HK.out.trans K)
               clear K)
  all_goals (first | go_ret | skip)
  all_goals exact ⟨rfl, HK1.out⟩
set_option maxRecDepth 100000 in
set_option maxHeartbeats 8000000 in
theorem made_any (ns : List Int) (k : Nat) (w : World) (g0 cap0 kb : Nat) (hk : k ≤ 5) (hn1 : 0 < ns.length) (hn : ns.length ≤ 4) (_hcap : ns.length ≤ cap0) (_hcm : cap0 ≤ maxLen)
    (hz : ∀ i, i < ns.length → w.cell? ⟨g0, i, none⟩ = some (.int .i64 (ns.getD i 0))) (hkb : w.cell? ⟨kb, 0, none⟩ = some (.int .i64 (k : Int)))
    (cd : List I3) (hfin : stM ns k ns.length = (cd, [])) (D : List I3) (hDD : cd ++ [((15, 0, 0) : I3)] = D) (htell : ∀ x ∈ D, Tellable x) (last : Int) (hlast : ns.getD (ns.length - 1) 0 = last) :
    Calls Try.prog 11 #[.slice (some ⟨g0, 0, none⟩) ns.length cap0, .pointer (some ⟨kb, 0, none⟩)] w fun e w' =>
      e = .returned (.string (outN D last k (cd.length + 1))) ∧ Kept NB w w' := by
  have HN := Lib.hid (new_st (FN w) w (fun r h => h))
  have HZ := Lib.hid (fun (w' : World) (K : Kept (FN w) w w') i (h : i < ns.length) => cell_farN K _ _ (hz i h))
  have HKB := Lib.hid (fun (w' : World) (K : Kept (FN w) w w') => cell_farN K _ _ hkb)
  have HOK := Lib.hid (stM_ok ns k hk)
  have HFIN := Lib.hid hfin
  have HTL := Lib.hid htell
  have HLS := Lib.hid hlast
  have HDD := Lib.hid hDD
  clear hz hkb hfin htell hlast hDD
  go_enter Try.func11, Try.ntmps11
  try simp only [List.append]
  go_wp2_with fail
  refine HN.out.mono ?_
  rintro e w1 ⟨pb, rfl, _, SB, K⟩
  have HSB := Lib.hid SB
  have HK := Lib.hid K
  clear SB K
  go_wp2_with fail
  go_loopw [15] (fun i wr => ∃ j : Nat, j ≤ ns.length ∧ i = .int .i64 j ∧ BldS (FN w) wr pb (stM ns k j).1 (stM ns k j).2 ∧ Kept (FN w) w wr) (fun i _ => ns.length - (intOf i).toNat)
  case atStart => exact ⟨0, by omega, rfl, HSB.out, HK.out⟩
  case round =>
    clear HSB HK
    obtain ⟨j, hj, rfl, SB, K⟩ := hrel
    have HSB := Lib.hid SB
    have HK := Lib.hid K
    clear SB K
    by_cases hlt : j < ns.length
    · have z0 := HZ.out wr HK.out j hlt
      have hok := HOK.out j (by omega)
      have HD := Lib.hid (do_all HSB.out (FN.all HK.out) hok.1 hok.2.2 (ns.getD j 0))
      have hml : j * (k + 1) ≤ 8 * 6 := Nat.mul_le_mul (by omega) (by omega)
      have HDL := Lib.hid (show (doS (ns.getD j 0) (stM ns k j)).1.length ≤ 49 by have := do_len (ns.getD j 0) (stM ns k j); omega)
      have HNX := Lib.hid (show stM ns k (j + 1) = putK k (doS (ns.getD j 0) (stM ns k j)) from rfl)
      clear hok hml
      generalize doS (ns.getD j 0) (stM ns k j) = s' at *
      generalize ns.getD j 0 = z at *
      go_wp2_with fail
      refine HD.out.mono ?_
      rintro e w2 ⟨rfl, SB, K⟩
      have HSB2 := Lib.hid SB
      have HK2 := Lib.hid (HK.out.trans K)
      have k0 := HKB.out w2 HK2.out
      clear SB K
      go_wp2_with fail
      go_loopw [23] (fun t wr' => ∃ q : Nat, q ≤ k ∧ t = .int .i64 q ∧ BldS (FN w) wr' pb (putK q s').1 (putK q s').2 ∧ Kept (FN w) w wr') (fun t _ => k - (intOf t).toNat)
      case atStart => exact ⟨0, by omega, rfl, HSB2.out, HK2.out⟩
      case round =>
        clear HSB2 HK2
        obtain ⟨q, hq, rfl, SB, K⟩ := hrel
        have HSB2 := Lib.hid SB
        have HK2 := Lib.hid K
        clear SB K
        by_cases hqk : q < k
        · have HP := Lib.hid (put_st HSB2.out (FN.all HK2.out) (11, 0, 0) (by have := HDL.out; have := putK_len q s'; omega))
          go_wp2_with fail
          refine HP.out.mono ?_
          rintro e w3 ⟨rfl, SB, K⟩
          have HSB3 := Lib.hid SB
          have HK3 := Lib.hid (HK2.out.trans K)
          clear SB K
          go_wp2_with fail
          go_roundw
          case rel => exact ⟨q + 1, by omega, by go_num, HSB3.out, HK3.out⟩
          case measure => simp [intOf]; omega
        · obtain rfl : q = k := by omega
          go_wp2_with fail
          go_roundw
          case rel => exact ⟨j + 1, by omega, by go_num, by rw [HNX.out]; exact HSB2.out, HK2.out⟩
          case measure => simp [intOf]; omega
    · obtain rfl : j = ns.length := by omega
      have hok := HOK.out ns.length (by omega)
      have hml : ns.length * (k + 1) ≤ 8 * 6 := Nat.mul_le_mul (by omega) (by omega)
      rw [HFIN.out] at hok HSB
      dsimp only at hok HSB
      have hcd : cd.length ≤ 48 := by omega
      have HE := Lib.hid (end_st HSB.out (FN.all HK.out) (by omega))
      have HCD := Lib.hid hcd
      clear hok hml hlt hj hcd HOK HFIN
      try dsimp only
      go_wp2_with fail
      refine HE.out.mono ?_
      rintro e w4 ⟨g, gc, rfl, hrow, _, _, K⟩
      obtain ⟨Wd, hWd⟩ : ∃ Wd, w4.alloc (.cells #[.slice (some ⟨g, 0, none⟩) (cd.length + 1) gc] 34) = Wd := ⟨_, rfl⟩
      have HDB := Lib.hid (show Wd.heap[w4.heap.size]? = some (.cells #[.slice (some ⟨g, 0, none⟩) (cd.length + 1) gc] 34 (0, 0)) by rw [← hWd]; exact (MapKept.heap_alloc w4 _).1)
      have HKD := Lib.hid (show Kept (FN w) w Wd by rw [← hWd]; exact (HK.out.trans K).alloc _)
      have HRW := Lib.hid (show Wd.ownsRow 0 31 3 _ _ _ by rw [← hWd]; exact owns_kept hrow ((Kept.refl (fun _ => False) w4).alloc _) (fun _ _ h => h))
      have d0 : Wd.cell? ⟨w4.heap.size, 0, none⟩ = some (.slice (some ⟨g, 0, none⟩) (cd.length + 1) gc) := by rw [cell_block HDB.out]; rfl
      clear hrow K
      go_wp2_with fail
      have HDL := Lib.hid (show D.length = cd.length + 1 by rw [← HDD.out]; simp)
      have HOZ := Lib.hid (fun i (hi : i ≤ D.length) => outN_size D last k HTL.out i hi)
      have HRW2 := Lib.hid (show Wd.ownsRow 0 31 3 _ _ (codeV D) by rw [← HDD.out]; exact HRW.out)
      clear d0
      go_loopw [9, 40] (fun v i wr => ∃ j : Nat, j ≤ cd.length + 1 ∧ i = .int .i64 j ∧ v = .string (outN D last k j) ∧ Kept NB Wd wr) (fun _ i _ => cd.length + 1 - (intOf i).toNat)
      case atStart => exact ⟨0, by omega, rfl, rfl, Kept.refl _ _⟩
      case round =>
        obtain ⟨j, hj, rfl, rfl, KW⟩ := hrel
        have HKW := Lib.hid KW
        clear KW
        by_cases hlt : j < cd.length + 1
        · obtain ⟨x, hx⟩ : ∃ x, D[j]? = some x := ⟨_, List.getElem?_eq_getElem (by have := HDL.out; omega)⟩
          have hxg : D.getD j (0, 0, 0) = x := by rw [List.getD_eq_getElem?_getD, hx]; rfl
          have HX := Lib.hid (HTL.out x (List.mem_of_getElem? hx))
          have hR := owns_kept HRW2.out HKW.out (fun _ _ h => h)
          obtain ⟨r0, r1, r2⟩ := codeV_get D j x hx
          obtain ⟨g', hg', i0, _⟩ := owns_cell hR r0
          cases hg'
          obtain ⟨g', hg', i1, _⟩ := owns_cell hR r1
          cases hg'
          obtain ⟨g', hg', i2, _⟩ := owns_cell hR r2
          cases hg'
          have HNX := Lib.hid (show outN D last k (j + 1) = if toldB D last k j = true then outN D last k j ++ (textN [x] 1 ++ sp) else outN D last k j by rw [outN, hxg])
          have HTBD := Lib.hid (show toldB D last k j = (x.1 != 11 || (decide ((j : Int) = ((cd.length + 1 : Nat) : Int) - 2 - k) && last == 17)) by rw [toldB, hxg, HDL.out])
          have hoz := HOZ.out j (by have := HDL.out; omega)
          have htz := textN_size [x] (by intro y hy; simp at hy; subst hy; exact HX.out) 1
          have hjj : j ≤ 49 := by have := HCD.out; omega
          have l0 := HZ.out wr (HKD.out.trans HKW.out.nb) (ns.length - 1) (by omega)
          rw [HLS.out] at l0
          have k1 := HKB.out wr (HKD.out.trans HKW.out.nb)
          have dbw : wr.cell? ⟨w4.heap.size, 0, none⟩ = some (.slice (some ⟨g, 0, none⟩) (cd.length + 1) gc) := by rw [cell_block ((HKW.out.block _ (Array.getElem?_eq_some_iff.1 HDB.out).1 (fun h => h)).trans HDB.out)]; rfl
          obtain ⟨op, A, B⟩ := x
          dsimp only at i0 i1 i2
          have hnt := fun W' => text_any [((op, A, B) : I3)] (by intro y hy; simp at hy; subst hy; exact HX.out) (.slice (some ⟨wr.heap.size + 1, 0, none⟩) 1 1) ((wr.alloc W').alloc (.cells #[.int .u8 op, .int .i64 A, .int .i64 B] 31)) (by simp) (by have := row1 (wr.alloc W') op A B; rwa [World.size_alloc] at this)
          rw [show ([((op, A, B) : I3)] : List I3).length = 1 from rfl] at hnt
          have HTXT := Lib.hid (show textN [((op, A, B) : I3)] 1 = textN [((op, A, B) : I3)] 1 from rfl)
          have HOS := Lib.hid (show outN D last k j = outN D last k j from rfl)
          generalize hTX : textN [((op, A, B) : I3)] 1 = TX at hnt htz HTXT HNX
          generalize hOS : outN D last k j = OS at *
          replace hnt := hnt (.cells #[.int .u8 op, .int .i64 A, .int .i64 B] 31)
          have hcat1 : ¬ 9223372036854775807 < TX.size + 1 := by omega
          have hcat2 : ¬ 9223372036854775807 < OS.size + (TX.size + 1) := by omega
          clear r0 r1 r2 hx hxg hR hoz htz hTX
          by_cases h11 : op = 11
          · subst h11
            have HAL := Lib.hid (fun a v h => cell_farN ((Kept.refl NB wr).alloc (.cells #[.int .u8 11, .int .i64 A, .int .i64 B] 31)) a v h (fun _ _ h => h))
            have dbw2 := HAL.out _ _ dbw
            have l02 := HAL.out _ _ l0
            have k12 := HAL.out _ _ k1
            have hw1 : wrap64 ((cd.length : Int) + 1 - 2) = (cd.length : Int) + 1 - 2 := wrap64_in _ (by have := HCD.out; omega)
            have hw2 : wrap64 ((cd.length : Int) + 1 - 2 - (k : Int)) = (cd.length : Int) + 1 - 2 - (k : Int) := wrap64_in _ (by have := HCD.out; omega)
            have hw3 : wrap64 ((ns.length : Int) - 1) = (ns.length : Int) - 1 := wrap64_in _ (by omega)
            have hn1 : (0 : Int) ≤ (ns.length : Int) - 1 := by omega
            have hn2 : (ns.length : Int) - 1 < (ns.length : Int) := by omega
            have hn3 : ((ns.length : Int) - 1).toNat = ns.length - 1 := by omega
            by_cases hji : (j : Int) = ((cd.length + 1 : Nat) : Int) - 2 - k
            · by_cases hl17 : last = 17
              · have HTB := Lib.hid (show toldB D last k j = true by rw [HTBD.out]; simp [hl17]; omega)
                have hjb : ((j : Int) == (cd.length : Int) + 1 - 2 - (k : Int)) = true := by simp; omega
                have hlb : (last == 17) = true := by simpa using hl17
                clear hji hl17
                have HNT := Lib.hid hnt
                clear hnt
                go_wp2_with fail
                refine HNT.out.mono ?_
                rintro e w5 ⟨rfl, K⟩
                have HK5 := Lib.hid (((HKW.out.alloc _).alloc _).trans K)
                clear K
                go_wp2_with fail
                go_roundw
                case rel => exact ⟨j + 1, by omega, by go_num, by rw [HNX.out, if_pos HTB.out]; rfl, HK5.out⟩
                case measure => simp [intOf]; omega
              · have HTB := Lib.hid (show ¬ toldB D last k j = true by rw [HTBD.out]; simp [hl17])
                have hjb : ((j : Int) == (cd.length : Int) + 1 - 2 - (k : Int)) = true := by simp; omega
                have hlb : (last == 17) = false := by simpa using hl17
                clear hji hl17
                clear hnt
                go_wp2_with fail
                go_roundw
                case rel => exact ⟨j + 1, by omega, by go_num, by rw [HNX.out, if_neg HTB.out], HKW.out.alloc _⟩
                case measure => simp [intOf]; omega
            · have HTB := Lib.hid (show ¬ toldB D last k j = true by rw [HTBD.out]; simp; omega)
              have hjb : ((j : Int) == (cd.length : Int) + 1 - 2 - (k : Int)) = false := by simp; omega
              clear hji
              clear hnt
              go_wp2_with fail
              go_roundw
              case rel => exact ⟨j + 1, by omega, by go_num, by rw [HNX.out, if_neg HTB.out], HKW.out.alloc _⟩
              case measure => simp [intOf]; omega
          · have h11b : (op != 11) = true := by simpa using h11
            have HTB := Lib.hid (show toldB D last k j = true by rw [HTBD.out]; simp [h11])
            have HNT := Lib.hid hnt
            clear hnt
            go_wp2_with fail
            refine HNT.out.mono ?_
            rintro e w5 ⟨rfl, K⟩
            have HK5 := Lib.hid (((HKW.out.alloc _).alloc _).trans K)
            clear K
            go_wp2_with fail
            go_roundw
            case rel => exact ⟨j + 1, by omega, by go_num, by rw [HNX.out, if_pos HTB.out]; rfl, HK5.out⟩
            case measure => simp [intOf]; omega
        · obtain rfl : j = cd.length + 1 := by omega
          go_wp2_with fail
          go_ret
          exact ⟨rfl, FN.new (HKD.out.trans HKW.out.nb)⟩
end Go.Proofs.Ytdpoobkfhmmbjaa
