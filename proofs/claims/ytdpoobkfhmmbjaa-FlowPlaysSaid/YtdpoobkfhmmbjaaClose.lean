/- The walk of flow.Builder's close. -/
import Derived.Test.YtdpoobkfhmmbjaaOpen
import Derived.Test.YtdpoobkfhmmbjaaPlain
import Derived.StillTailTactics
namespace Go.Proofs.Ytdpoobkfhmmbjaa
open Go.RowKit
theorem setA_length (c : List I3) (i : Nat) (v : Int) : (setA c i v).length = c.length := by simp [setA]
theorem closeG_length (c : List I3) (gs : List Int) : (closeG c gs).length = c.length := by
  induction gs generalizing c with
  | nil => rfl
  | cons g gs ih => exact (ih _).trans (setA_length _ _ _)
theorem closeG_step (c : List I3) (gs : List Int) (k : Nat) (g : Int) (h : gs[k]? = some g) : closeG c (gs.take (k + 1)) = setA (closeG c (gs.take k)) g.toNat c.length := by
  have e : gs.take (k + 1) = gs.take k ++ [g] := by rw [List.take_add_one, h]; rfl
  rw [e]
  show List.foldl _ _ _ = _
  rw [List.foldl_append]
  show setA (closeG c (gs.take k)) g.toNat (closeG c (gs.take k)).length = _
  rw [closeG_length]
theorem codeV_setA (c : List I3) (i : Nat) (v : Int) (hi : i < c.length) : (codeV c).set (i * 3 + 1) (.int .i64 v) = codeV (setA c i v) := by
  induction c generalizing i with
  | nil => simp at hi
  | cons x c ih =>
    have e : codeV (x :: c) = .int .u8 x.1 :: .int .i64 x.2.1 :: .int .i64 x.2.2 :: codeV c := rfl
    cases i with
    | zero => rfl
    | succ i =>
      have e2 : setA (x :: c) (i + 1) v = x :: setA c i v := rfl
      rw [e2, e, show (i + 1) * 3 + 1 = i * 3 + 1 + 1 + 1 + 1 by omega]
      simp only [List.set_cons_succ, ih i (by simpa using hi)]
      rfl
section
variable {F : Nat → Prop} {w : World} {p : Nat} {vc vp : Value} {code : List I3} {ps : List (Prt × Value)}
theorem Bld.set_code {g n c : Nat} (B : Bld F w p (.slice (some ⟨g, 0, none⟩) n c) vp code ps) (i : Nat) (hi : i < code.length) (v : Int) :
    Bld F (w.setCell ⟨g, i * 3 + 1, none⟩ (.int .i64 v)) p (.slice (some ⟨g, 0, none⟩) n c) vp (setA code i v) ps ∧ Kept F w (w.setCell ⟨g, i * 3 + 1, none⟩ (.int .i64 v)) := by
  have K := kept_at w ⟨g, i * 3 + 1, none⟩ (.int .i64 v)
  have hg : (Value.slice (some ⟨g, 0, none⟩) n c).ownBlock = some g := rfl
  refine ⟨⟨(K.block p (Array.getElem?_eq_some_iff.1 B.own).1 (fun h => owns_ne B.code B.own (by decide) (by rw [hg]; exact congrArg some h.symm))).trans B.own, ?_, ?_, ?_, B.apart, B.fp, B.fc, B.fq, B.fg⟩, K.mono (fun r hr => by rw [hr]; exact B.fc g rfl)⟩
  · have := owns_set B.code hg (i * 3 + 1) (.int .i64 v)
    rw [codeV_setA _ _ _ hi] at this
    rw [setA_length]
    exact this
  · refine owns_off B.parts (fun h => ?_) _
    rcases owns_apart B.parts B.code (by decide) with h1 | h1
    · rw [h1] at h; cases h
    · exact h1 (h.trans hg.symm)
  · intro q hq
    refine owns_off (B.gaps q hq) (fun h => ?_) _
    rcases owns_apart (B.gaps q hq) B.code (by decide) with h1 | h1
    · rw [h1] at h; cases h
    · exact h1 (h.trans hg.symm)
end
set_option maxRecDepth 100000 in
set_option maxHeartbeats 2000000 in
theorem close_any {F : Nat → Prop} {w : World} {p : Nat} {vc vp : Value} {code : List I3} {ps : List (Prt × Value)} (B : Bld F w p vc vp code ps) (gs : List Int) (gv : Value) (_hn : code.length < 600)
    (hq : w.ownsRow 0 3 1 gv gs.length (gs.map intV)) (hg : ∀ g ∈ gs, 0 ≤ g ∧ g < code.length) :
    Calls Try.prog 63 #[.pointer (some ⟨p, 0, none⟩), gv] w fun e w' => e = .returned (.tuple #[]) ∧ Bld F w' p vc vp (closeG code gs) ps ∧ Kept F w w' := by
  obtain ⟨qa, qc, hqv, hq1, hq2, hq3⟩ := owns_slice hq
  subst hqv
  have hgn : gs.length ≤ maxLen := by omega
  simp only [maxLen] at hgn
  have HB := Lib.hid B
  have HQ := Lib.hid hq
  have HG := Lib.hid hg
  clear B hq hg hq3
  go_enter Try.func63, Try.ntmps63
  go_wp2_with fail
  go_loopw [8] (fun i wr => ∃ k : Nat, k ≤ gs.length ∧ i = .int .i64 k ∧ Bld F wr p vc vp (closeG code (gs.take k)) ps ∧ Kept F w wr ∧ wr.ownsRow 0 3 1 (.slice qa gs.length qc) gs.length (gs.map intV)) (fun i _ => gs.length - (intOf i).toNat)
  case atStart => exact ⟨0, by omega, rfl, HB.out, Kept.refl _ _, HQ.out⟩
  case round =>
    obtain ⟨k, hk, rfl, B2, K2, Q2⟩ := hrel
    by_cases hlt : k < gs.length
    · obtain ⟨g, hgk⟩ : ∃ g, gs[k]? = some g := ⟨_, List.getElem?_eq_getElem hlt⟩
      have hgb := HG.out g (List.mem_of_getElem? hgk)
      obtain ⟨qb, rfl, hc, _⟩ := owns_cell Q2 (j := k) (u := .int .i64 g) (by rw [List.getElem?_map, hgk]; rfl)
      have HN := Lib.hid (closeG_step code gs k g hgk)
      have hl := closeG_length code (gs.take k)
      obtain ⟨n, rfl⟩ := Int.eq_ofNat_of_zero_le hgb.1
      rw [Int.toNat_natCast] at HN
      obtain ⟨a, c, rfl, h1, h2, h3⟩ := owns_slice B2.code
      have hnl : n < (closeG code (gs.take k)).length := by omega
      obtain ⟨y, hy⟩ : ∃ y, (closeG code (gs.take k))[n]? = some y := ⟨_, List.getElem?_eq_getElem hnl⟩
      obtain ⟨cb, rfl, hcy, hfy⟩ := owns_cell B2.code (codeV_get _ n y hy).2.1
      have c0 : wr.cell? ⟨p, 0, none⟩ = some (.slice (some ⟨cb, 0, none⟩) (closeG code (gs.take k)).length c) := by rw [cell_block B2.own]; rfl
      have HB2 := Lib.hid B2
      have HK2 := Lib.hid K2
      have HQ2 := Lib.hid Q2
      have HAP := Lib.hid (owns_apart Q2 B2.code (by decide))
      rw [hl] at c0
      clear B2 K2 Q2 h3 hgk hy
      go_wp2_with fail
      have hb2 : (0 : Int) ≤ (n : Int) := by omega
      have hb3 : (n : Int) < (code.length : Int) := by omega
      have hb4 : ((n : Int)).toNat = n := by omega
      go_still_tail 12, (by kernel_rfl)
      clear hb2 hb3 hb4
      change wpList _ _ _ _ _ wr.drew
      have B3 := Lib.hid ((show Bld F wr.drew p _ vp _ ps from HB2.out.kept (Kept.refl (fun _ => False) wr).drew (fun _ _ h => h)).set_code n hnl (code.length : Int))
      have Q3 := Lib.hid (owns_off (q := ⟨cb, n * 3 + 1, none⟩) (show wr.drew.ownsRow 0 3 1 _ _ _ from HQ2.out) (fun h => by
        rcases HAP.out with h1 | h1
        · rw [h1] at h; cases h
        · exact h1 h) (.int .i64 (code.length : Int)))
      have K3 := Lib.hid (HK2.out.drew)
      have hcy3 : wr.drew.cell? ⟨cb, n * 3 + 1, none⟩ = some (.int .i64 y.2.1) := hcy
      have hfy3 : wr.drew.frozen? ⟨cb, n * 3 + 1, none⟩ = false := hfy
      generalize wr.drew = w3 at *
      go_wp2_with fail
      go_roundw
      case rel => exact ⟨k + 1, by omega, by go_num, by rw [HN.out]; exact B3.out.1, K3.out.trans B3.out.2, Q3.out⟩
      case measure => simp [intOf]; omega
    · have hk8 : k = gs.length := by omega
      subst hk8
      have HB2 := Lib.hid B2
      have HK2 := Lib.hid K2
      clear B2 K2 Q2
      go_wp2
      all_goals (first | go_end0 | skip)
      refine ⟨rfl, ?_, HK2.out⟩
      have := HB2.out
      rwa [List.take_length] at this
end Go.Proofs.Ytdpoobkfhmmbjaa
