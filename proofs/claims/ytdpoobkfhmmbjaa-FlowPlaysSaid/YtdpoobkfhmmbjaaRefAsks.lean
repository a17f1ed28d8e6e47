/- The walk of the reference's asks. -/
import Derived.Test.YtdpoobkfhmmbjaaRefA
namespace Go.Proofs.Ytdpoobkfhmmbjaa
open Go.RowKit
def asksB (n : Nat) (st : List Prt) : Bool := if n = 13 then hasLoop st else fitsS st (asksOf n)
theorem fits_upon1 (st : List Prt) (k : Int) : fitsS st [k] = uponP st k 0 := by
  cases st with
  | nil => rfl
  | cons q r => simp [fitsS, uponP]
theorem fits_upon2 (st : List Prt) (k k2 : Int) : fitsS st [k, k2] = (uponP st k 0 && uponP st k2 1) := by
  cases st with
  | nil => rfl
  | cons q r =>
    cases r with
    | nil => simp [fitsS, uponP]
    | cons q2 r => simp [fitsS, uponP]
set_option maxRecDepth 100000 in
set_option maxHeartbeats 4000000 in
theorem asks_not13 {w : World} {p : Nat} {vc vp : Value} {code : List I3} {ps : List (Prt × Value)} (B : RefB w p vc vp code ps) (hpl : ps.length < 99) (n : Nat) (h1 : 1 ≤ n) (h2 : n ≤ 17) (h13 : n ≠ 13) :
    Calls Try.prog 33 #[.pointer (some ⟨p, 0, none⟩), .int .i64 (n : Int)] w fun e w' => e = .returned (.bool (asksB n (ps.map (·.1)).reverse)) ∧ w = w' := by
  rw [asksB, if_neg h13]
  generalize hst : (ps.map (·.1)).reverse = st
  have HU0 := Lib.hid (fun kind => show Calls Try.prog 62 #[.pointer (some ⟨p, 0, none⟩), .int .i64 kind, .int .i64 0] w fun e w' => e = .returned (.bool (uponP st kind 0)) ∧ w = w' by rw [← hst]; exact upon_any B hpl kind 0 (by decide))
  have HU1 := Lib.hid (fun kind => show Calls Try.prog 62 #[.pointer (some ⟨p, 0, none⟩), .int .i64 kind, .int .i64 1] w fun e w' => e = .returned (.bool (uponP st kind 1)) ∧ w = w' by rw [← hst]; exact upon_any B hpl kind 1 (by decide))
  clear B hpl hst
  match n, h1, h2, h13 with
  | 2, _, _, _ | 3, _, _, _ | 5, _, _, _ | 7, _, _, _ | 8, _, _, _ | 11, _, _, _ | 12, _, _, _ | 15, _, _, _ | 17, _, _, _ =>
    simp only [asksOf, List.getD_cons_succ, List.getD_cons_zero]
    rw [fits_upon1]
    go_enter Try.func33, Try.ntmps33
    go_wp2_with (go_at_call 62; refine (HU0.out _).mono ?_; rintro e v1 ⟨rfl, rfl⟩)
    all_goals (first | go_ret | skip)
    all_goals exact ⟨rfl, rfl⟩
  | 1, _, _, _ | 4, _, _, _ | 9, _, _, _ | 10, _, _, _ | 14, _, _, _ =>
    simp only [asksOf, List.getD_cons_succ, List.getD_cons_zero, fitsS]
    go_enter Try.func33, Try.ntmps33
    go_wp2_with fail
    all_goals (first | go_ret | skip)
    all_goals exact ⟨rfl, rfl⟩
  | 6, _, _, _ =>
    simp only [asksOf, List.getD_cons_succ, List.getD_cons_zero]
    rw [fits_upon2]
    cases hb : uponP st 1 0 with
    | true =>
      have hB := HU0.out 1
      rw [hb] at hB
      have HB := Lib.hid hB
      clear hB hb
      go_enter Try.func33, Try.ntmps33
      go_wp2_with (first | (go_at_call 62; with_reducible refine HB.out.mono ?_; rintro e v1 ⟨rfl, rfl⟩) | (go_at_call 62; with_reducible refine (HU1.out 0).mono ?_; rintro e v1 ⟨rfl, rfl⟩))
      all_goals (first | go_ret | skip)
      all_goals exact ⟨rfl, rfl⟩
    | false =>
      have hB := HU0.out 1
      rw [hb] at hB
      have HB := Lib.hid hB
      clear hB hb
      go_enter Try.func33, Try.ntmps33
      go_wp2_with (go_at_call 62; with_reducible refine HB.out.mono ?_; rintro e v1 ⟨rfl, rfl⟩)
      all_goals (first | go_ret | skip)
      all_goals exact ⟨rfl, rfl⟩
  | 16, _, _, _ =>
    simp only [asksOf, List.getD_cons_succ, List.getD_cons_zero]
    rw [fits_upon2]
    cases hb : uponP st 4 0 with
    | true =>
      have hB := HU0.out 4
      rw [hb] at hB
      have HB := Lib.hid hB
      clear hB hb
      go_enter Try.func33, Try.ntmps33
      go_wp2_with (first | (go_at_call 62; with_reducible refine HB.out.mono ?_; rintro e v1 ⟨rfl, rfl⟩) | (go_at_call 62; with_reducible refine (HU1.out 3).mono ?_; rintro e v1 ⟨rfl, rfl⟩))
      all_goals (first | go_ret | skip)
      all_goals exact ⟨rfl, rfl⟩
    | false =>
      have hB := HU0.out 4
      rw [hb] at hB
      have HB := Lib.hid hB
      clear hB hb
      go_enter Try.func33, Try.ntmps33
      go_wp2_with (go_at_call 62; with_reducible refine HB.out.mono ?_; rintro e v1 ⟨rfl, rfl⟩)
      all_goals (first | go_ret | skip)
      all_goals exact ⟨rfl, rfl⟩
  | n + 18, _, h, _ => exact absurd h (by omega)
set_option maxRecDepth 100000 in
set_option maxHeartbeats 4000000 in
theorem asks_13 {w : World} {p : Nat} {vc vp : Value} {code : List I3} {ps : List (Prt × Value)} (B : RefB w p vc vp code ps) (hpl : ps.length < 99) :
    Calls Try.prog 33 #[.pointer (some ⟨p, 0, none⟩), .int .i64 13] w fun e w' => e = .returned (.bool (hasLoop (ps.map (·.1)).reverse)) ∧ w = w' := by
  obtain ⟨a, c, rfl, h1, h2, h3⟩ := owns_slice B.parts
  have c1 : w.cell? ⟨p, 1, none⟩ = some (.slice a ps.length c) := by rw [cell_block B.own]; rfl
  have HB := Lib.hid B
  obtain ⟨n, hn⟩ : ∃ n, n = ps.length := ⟨_, rfl⟩
  have HN := Lib.hid hn
  have hn99 : n < 99 := by omega
  obtain ⟨hl, hhl⟩ : ∃ hl, hl = hasLoop (ps.map (·.1)).reverse := ⟨_, rfl⟩
  have HL := Lib.hid hhl
  rw [← hhl]
  rw [← hn] at c1
  clear B h3 h1 h2 hpl hn hhl
  go_enter Try.func33, Try.ntmps33
  go_wp2_with fail
  go_loopw [5] (fun v wr => ∃ i : Nat, i ≤ n ∧ v = .int .i64 i ∧ w = wr ∧ ∀ j q, j < i → ps[j]? = some q → q.1.kind ≠ 2) (fun v _ => n - (intOf v).toNat)
  case atStart => exact ⟨0, by omega, rfl, rfl, by intro j q h; omega⟩
  case round =>
    obtain ⟨i, hi, rfl, rfl, hno⟩ := hrel
    have HNO := Lib.hid hno
    clear hno
    by_cases hlt : i < n
    · obtain ⟨q, hq⟩ : ∃ q, ps[i]? = some q := ⟨_, List.getElem?_eq_getElem (by rw [← HN.out]; exact hlt)⟩
      obtain ⟨g, rfl, k0, _⟩ := owns_cell HB.out.parts (partsV_get ps i q hq).1
      have HQ := Lib.hid hq
      clear hq
      by_cases h2 : q.1.kind = 2
      · have b1 : (q.1.kind == 2) = true := by rw [h2]; rfl
        have hT : hl = true := by
          rw [HL.out, hasLoop, List.any_eq_true]
          exact ⟨q.1, by rw [List.mem_reverse]; exact List.mem_map.2 ⟨q, List.mem_of_getElem? HQ.out, rfl⟩, b1⟩
        clear h2
        generalize q.1.kind = kd at *
        go_wp2_with fail
        all_goals (first | go_ret | skip)
        all_goals exact ⟨by rw [hT]; rfl, rfl⟩
      · have b1 : (q.1.kind == 2) = false := by simpa using h2
        have HH2 := Lib.hid h2
        clear h2
        generalize hkd : q.1.kind = kd at *
        go_wp2_with fail
        have hstep : ∀ j q', j < i + 1 → ps[j]? = some q' → q'.1.kind ≠ 2 := fun j q' hj hq' => by
          by_cases h : j = i
          · subst h
            have := HQ.out
            rw [this] at hq'
            cases hq'
            rw [hkd]; exact HH2.out
          · exact HNO.out j q' (by omega) hq'
        first
          | (refine ⟨⟨i + 1, by omega, by go_num, trivial, hstep⟩, ?_⟩; simp [intOf]; omega)
          | (refine ⟨⟨i + 1, by omega, by go_num, rfl, hstep⟩, ?_⟩; simp [intOf]; omega)
          | (go_roundw; case rel => exact ⟨i + 1, by omega, by go_num, rfl, hstep⟩; case measure => (simp [intOf]; omega))
    · obtain rfl : i = n := by omega
      have hF : hl = false := by
        rw [HL.out, hasLoop, List.any_eq_false]
        intro x hx
        rw [List.mem_reverse] at hx
        obtain ⟨q, hq, rfl⟩ := List.mem_map.1 hx
        obtain ⟨j, hj⟩ := List.getElem?_of_mem hq
        have := HNO.out j q (by rw [HN.out]; exact (List.getElem?_eq_some_iff.1 hj).1) hj
        simpa using this
      go_wp2_with fail
      all_goals (first | go_ret | skip)
      all_goals exact ⟨by rw [hF]; rfl, rfl⟩
theorem asks_any {w : World} {p : Nat} {vc vp : Value} {code : List I3} {ps : List (Prt × Value)} (B : RefB w p vc vp code ps) (hpl : ps.length < 99) (n : Nat) (h1 : 1 ≤ n) (h2 : n ≤ 17) :
    Calls Try.prog 33 #[.pointer (some ⟨p, 0, none⟩), .int .i64 (n : Int)] w fun e w' => e = .returned (.bool (asksB n (ps.map (·.1)).reverse)) ∧ w = w' := by
  by_cases h : n = 13
  · subst h
    exact asks_13 B hpl
  · exact asks_not13 B hpl n h1 h2 h
end Go.Proofs.Ytdpoobkfhmmbjaa
