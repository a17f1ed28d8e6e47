/- The walk of flow.Builder's fits. -/
import Derived.Test.YtdpoobkfhmmbjaaClose
namespace Go.Proofs.Ytdpoobkfhmmbjaa
open Go.RowKit
theorem fitsS_iff (st : List Prt) (ks : List Int) : fitsS st ks = true ↔ ∀ (i : Nat) (k : Int), ks[i]? = some k → ∃ q : Prt, st[i]? = some q ∧ q.kind = k := by
  induction ks generalizing st with
  | nil => simp [fitsS]
  | cons k ks ih =>
    cases st with
    | nil =>
      simp only [fitsS]
      constructor
      · intro h; cases h
      · intro h
        obtain ⟨q, hq, _⟩ := h 0 k rfl
        simp at hq
    | cons q st =>
      simp only [fitsS, Bool.and_eq_true, beq_iff_eq, ih]
      constructor
      · rintro ⟨h1, h2⟩ i k' hk
        cases i with
        | zero => simp at hk; subst hk; exact ⟨q, rfl, h1⟩
        | succ i => exact h2 i k' (by simpa using hk)
      · intro h
        refine ⟨?_, fun i k' hk => h (i + 1) k' (by simpa using hk)⟩
        obtain ⟨q', h1, h2⟩ := h 0 k rfl
        simp at h1
        subst h1
        exact h2
theorem st_get (ps : List (Prt × Value)) (i : Nat) (h : i < ps.length) : (ps.map (·.1)).reverse[i]? = (ps[ps.length - 1 - i]?).map (·.1) := by
  rw [List.getElem?_reverse (by simpa using h)]
  simp
set_option maxRecDepth 100000 in
set_option maxHeartbeats 2000000 in
theorem fits_any {F : Nat → Prop} {w : World} {p : Nat} {vc vp : Value} {code : List I3} {ps : List (Prt × Value)} (B : Bld F w p vc vp code ps) (hpl : ps.length < 99) (ks : List Int) (av : Value) (hkl : ks.length < 9)
    (hq : w.ownsRow 0 3 1 av ks.length (ks.map intV)) :
    Calls Try.prog 27 #[.pointer (some ⟨p, 0, none⟩), av] w fun e w' => e = .returned (.bool (fitsS (ps.map (·.1)).reverse ks)) ∧ w = w' := by
  obtain ⟨qa, qc, hqv, hq1, hq2, hq3⟩ := owns_slice hq
  subst hqv
  obtain ⟨a, c, rfl, h1, h2, h3⟩ := owns_slice B.parts
  have c1 : w.cell? ⟨p, 1, none⟩ = some (.slice a ps.length c) := by rw [cell_block B.own]; rfl
  have HB := Lib.hid B
  have HQ := Lib.hid hq
  generalize hfs : fitsS (ps.map (·.1)).reverse ks = fs at *
  have HFS := Lib.hid hfs
  clear B hq hq3 h3 hfs
  go_enter Try.func27, Try.ntmps27
  go_wp2_with fail
  go_loopw [10] (fun i wr => ∃ k : Nat, k ≤ ks.length ∧ i = .int .i64 k ∧ w = wr ∧ ∀ (j : Nat) (x : Int), j < k → ks[j]? = some x → ∃ q : Prt, (ps.map (·.1)).reverse[j]? = some q ∧ q.kind = x) (fun i _ => ks.length - (intOf i).toNat)
  case atStart => exact ⟨0, by omega, rfl, rfl, fun j x h => by omega⟩
  case round =>
    obtain ⟨k, hk, rfl, rfl, hJ⟩ := hrel
    have HJ := Lib.hid hJ
    clear hJ
    by_cases hlt : k < ks.length
    · obtain ⟨g, hgk⟩ : ∃ g, ks[k]? = some g := ⟨_, List.getElem?_eq_getElem hlt⟩
      obtain ⟨qb, rfl, hc, _⟩ := owns_cell HQ.out (j := k) (u := .int .i64 g) (by rw [List.getElem?_map, hgk]; rfl)
      have HG := Lib.hid hgk
      clear hgk
      have hw1 : wrap64 ((ps.length : Int) - 1) = (ps.length : Int) - 1 := wrap64_in _ (by omega)
      have hw2 : wrap64 ((ps.length : Int) - 1 - (k : Int)) = (ps.length : Int) - 1 - (k : Int) := wrap64_in _ (by omega)
      by_cases hin : k < ps.length
      · obtain ⟨q, hqk⟩ : ∃ q, ps[ps.length - 1 - k]? = some q := ⟨_, List.getElem?_eq_getElem (by omega)⟩
        obtain ⟨g0, g1, g2⟩ := partsV_get ps _ q hqk
        obtain ⟨pb, rfl, hpc, _⟩ := owns_cell HB.out.parts g0
        have HST := Lib.hid (show (ps.map (·.1)).reverse[k]? = some q.1 by rw [st_get ps k hin, hqk]; rfl)
        have hn1 : ¬ (ps.length : Int) - 1 - (k : Int) < 0 := by omega
        have hn2 : (ps.length : Int) - 1 - (k : Int) < (ps.length : Int) := by omega
        have hn3 : ((ps.length : Int) - 1 - (k : Int)).toNat = ps.length - 1 - k := by omega
        clear g0 g1 g2 hqk
        by_cases he : q.1.kind = g
        · subst he
          go_wp2_with fail
          go_roundw
          case rel => 
            refine ⟨k + 1, by omega, by go_num, trivial, fun j x hj hx => ?_⟩
            rcases Nat.lt_or_ge j k with h | h
            · exact HJ.out j x h hx
            · obtain rfl : j = k := by omega
              rw [HG.out] at hx
              cases hx
              exact ⟨_, HST.out, rfl⟩
          case measure => simp [intOf]; omega
        · go_wp2_with fail
          have hff : fs = false := by
            rw [← HFS.out, Bool.eq_false_iff]
            intro h
            obtain ⟨q', h1, h2⟩ := (fitsS_iff _ _).1 h k g HG.out
            rw [HST.out] at h1
            cases h1
            exact he h2
          subst hff
          go_ret
          exact ⟨rfl, rfl⟩
      · have hn1 : (ps.length : Int) - 1 - (k : Int) < 0 := by omega
        go_wp2_with fail
        have hff : fs = false := by
          rw [← HFS.out, Bool.eq_false_iff]
          intro h
          obtain ⟨q', h1, h2⟩ := (fitsS_iff _ _).1 h k g HG.out
          have := (List.getElem?_eq_some_iff.1 h1).1
          simp at this
          omega
        subst hff
        go_ret
        exact ⟨rfl, rfl⟩
    · have hk8 : k = ks.length := by omega
      subst hk8
      go_wp2_with fail
      have hff : fs = true := by
        rw [← HFS.out, fitsS_iff]
        intro i x hi
        exact HJ.out i x (List.getElem?_eq_some_iff.1 hi).1 hi
      subst hff
      go_ret
      exact ⟨rfl, rfl⟩
end Go.Proofs.Ytdpoobkfhmmbjaa
