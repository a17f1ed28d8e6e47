/- The kinds of the parts that are open: what each word makes of them. Plain facts. -/
import Derived.Test.YtdpoobkfhmmbjaaDepth
namespace Go.Proofs.Ytdpoobkfhmmbjaa
def addOf (n : Nat) : List Int := ([[], [0], [0], [], [1], [1, 0], [], [], [], [2], [2], [], [], [], [3], [4, 3], [3], []] : List (List Int)).getD n []
def kindsS (s : St) : List Int := s.2.map (·.kind)
theorem fits_iff (st : List Prt) (ks : List Int) : fitsS st ks = true ↔ ∃ rest, st.map (·.kind) = ks ++ rest := by
  induction ks generalizing st with
  | nil => simp [fitsS]
  | cons k ks ih =>
    cases st with
    | nil => simp [fitsS]
    | cons q r =>
      simp only [fitsS, Bool.and_eq_true, beq_iff_eq, ih, List.map_cons, List.cons_append, List.cons.injEq]
      constructor
      · rintro ⟨a, rest, b⟩; exact ⟨rest, a, b⟩
      · rintro ⟨rest, a, b⟩; exact ⟨a, rest, b⟩
theorem kinds_addGap (n : Int) (st : List Prt) : (addGap n st).map (·.kind) = st.map (·.kind) := by
  induction st with
  | nil => rfl
  | cons q r ih =>
    unfold addGap
    split
    · rfl
    · simp only [List.map_cons, ih]
theorem laid_len (n : Nat) (c : List I3) : (laidS n c).length = c.length + (if laysOf n = 0 then 0 else 1) := by
  unfold laidS
  split <;> simp
/-- what a word that is not refused makes of the kinds, and of the length -/
theorem do_kinds (m : Nat) (s : St) (ha : ansS (m : Int) s = 0) : (∃ rest, kindsS s = asksOf m ++ rest ∧ kindsS (doS (m : Int) s) = addOf m ++ rest) ∧ (doS (m : Int) s).1.length = s.1.length + (if laysOf m = 0 then 0 else 1) := by
  obtain ⟨c, st⟩ := s
  obtain ⟨m', hm', h1, h2, hf, _, _, _⟩ := ans_ok ha
  obtain rfl : m = m' := by omega
  rw [doS, if_pos ha, show ((m : Int)).toNat = m from rfl]
  have hl := laid_len m c
  dsimp only at hf
  match m, h1, h2 with
  | 1, _, _ | 4, _, _ | 9, _, _ | 10, _, _ | 14, _, _ => exact ⟨⟨_, rfl, rfl⟩, hl⟩
  | 13, _, _ => exact ⟨⟨_, rfl, kinds_addGap _ _⟩, hl⟩
  | 15, _, _ =>
    obtain ⟨q, r, rfl, hq⟩ := fits1 hf
    exact ⟨⟨r.map (·.kind), by simp [kindsS, asksOf, hq], by simp [kindsS, actS, addOf, hq]⟩, hl⟩
  | 2, _, _ =>
    obtain ⟨q, r, rfl, hq⟩ := fits1 hf
    exact ⟨⟨r.map (·.kind), by simp [kindsS, asksOf, hq], by simp [kindsS, actS, addOf]⟩, by simpa [actS, setA_length] using hl⟩
  | 3, _, _ =>
    obtain ⟨q, r, rfl, hq⟩ := fits1 hf
    exact ⟨⟨r.map (·.kind), by simp [kindsS, asksOf, hq], by simp [kindsS, actS, addOf]⟩, by simpa [actS, setA_length] using hl⟩
  | 5, _, _ =>
    obtain ⟨q, r, rfl, hq⟩ := fits1 hf
    exact ⟨⟨r.map (·.kind), by simp [kindsS, asksOf, hq], by simp [kindsS, actS, addOf, hq]⟩, hl⟩
  | 6, _, _ =>
    obtain ⟨q, q2, r, rfl, hq, hq2⟩ := fits2 hf
    exact ⟨⟨r.map (·.kind), by simp [kindsS, asksOf, hq, hq2], by simp [kindsS, actS, addOf]⟩, by simpa [actS, setA_length] using hl⟩
  | 7, _, _ | 8, _, _ =>
    obtain ⟨q, r, rfl, hq⟩ := fits1 hf
    exact ⟨⟨r.map (·.kind), by simp [kindsS, asksOf, hq], by simp [kindsS, actS, addOf]⟩, by simpa [actS, setA_length] using hl⟩
  | 11, _, _ | 12, _, _ =>
    obtain ⟨q, r, rfl, hq⟩ := fits1 hf
    exact ⟨⟨r.map (·.kind), by simp [kindsS, asksOf, hq], by simp [kindsS, actS, addOf]⟩, by simpa [actS, setA_length, closeG_length] using hl⟩
  | 16, _, _ =>
    obtain ⟨q, q2, r, rfl, hq, hq2⟩ := fits2 hf
    exact ⟨⟨r.map (·.kind), by simp [kindsS, asksOf, hq, hq2], by simp [kindsS, actS, addOf, hq2]⟩, by simpa [actS, setA_length] using hl⟩
  | 17, _, _ =>
    obtain ⟨q, r, rfl, hq⟩ := fits1 hf
    exact ⟨⟨r.map (·.kind), by simp [kindsS, asksOf, hq], by simp [kindsS, actS, addOf]⟩, by simpa [actS, closeG_length] using hl⟩
  | m + 18, _, h => exact absurd h (by omega)
/-- a word that fits is not refused while there is room -/
theorem ans_fit (m : Nat) (s : St) (h1 : 1 ≤ m) (h2 : m ≤ 17) (h13 : m ≠ 13) (hf : ∃ rest, kindsS s = asksOf m ++ rest) (hl : s.1.length < 499) (hs : s.2.length < 32 ∨ moreOf m = 0) : ansS (m : Int) s = 0 := by
  have hf' : fitsS s.2 (asksOf m) = true := (fits_iff _ _).2 hf
  have h13' : ((m : Int) == 13) = false := by simp; omega
  rw [ansS, if_pos (by omega), show ((m : Int)).toNat = m from rfl, hf', h13']
  simp
  refine ⟨fun _ => by omega, fun h => ?_⟩
  rcases hs with hs | hs
  · exact hs
  · omega
/-- .. and is refused where it does not fit -/
theorem ans_bad (m : Nat) (s : St) (h1 : 1 ≤ m) (h2 : m ≤ 17) (hf : ¬ ∃ rest, kindsS s = asksOf m ++ rest) : ansS (m : Int) s = -22 := by
  have hf' : fitsS s.2 (asksOf m) = false := by
    cases h : fitsS s.2 (asksOf m) with
    | false => rfl
    | true => exact absurd ((fits_iff _ _).1 h) hf
  rw [ansS, if_pos (by omega), show ((m : Int)).toNat = m from rfl, hf']
  simp
/-- kinds as they can lie one above the other -/
def Chn : List Int → Prop
  | [] => True
  | k :: r => (0 ≤ k ∧ k ≤ 4) ∧ (k = 4 → ∃ r2, r = 3 :: r2) ∧ Chn r
theorem chn_do (n : Int) (s : St) (h : Chn (kindsS s)) : Chn (kindsS (doS n s)) := by
  by_cases ha : ansS n s = 0
  · obtain ⟨m, rfl, h1, h2, _⟩ := ans_ok ha
    obtain ⟨⟨rest, e1, e2⟩, _⟩ := do_kinds m s ha
    rw [e2]
    rw [e1] at h
    match m, h1, h2 with
    | 1, _, _ => exact ⟨by omega, by intro h; omega, h⟩
    | 2, _, _ => exact h
    | 3, _, _ => exact h.2.2
    | 4, _, _ => exact ⟨by omega, by intro h; omega, h⟩
    | 5, _, _ => exact ⟨by omega, by intro h; omega, by omega, by intro h; omega, h.2.2⟩
    | 6, _, _ => exact h.2.2.2.2
    | 7, _, _ | 8, _, _ | 11, _, _ | 12, _, _ | 17, _, _ => exact h.2.2
    | 9, _, _ | 10, _, _ => exact ⟨by omega, by intro h; omega, h⟩
    | 13, _, _ => exact h
    | 14, _, _ => exact ⟨by omega, by intro h; omega, h⟩
    | 15, _, _ => exact ⟨by omega, fun _ => ⟨_, rfl⟩, h⟩
    | 16, _, _ => exact h.2.2
    | m + 18, _, h => exact absurd h (by omega)
  · rw [doS, if_neg ha]; exact h
/-- the words that close -/
def clsB (q : Nat) : Nat := ([3, 6, 7, 11, 16, 17] : List Nat).getD q 0
theorem cls_some (ks : List Int) (h : Chn ks) (hne : ks ≠ []) : ∃ q, q < 6 ∧ ∃ rest, ks = asksOf (clsB q) ++ rest := by
  cases ks with
  | nil => exact absurd rfl hne
  | cons k r =>
    obtain ⟨⟨a, b⟩, c, _⟩ := h
    have : k = 0 ∨ k = 1 ∨ k = 2 ∨ k = 3 ∨ k = 4 := by omega
    rcases this with rfl | rfl | rfl | rfl | rfl
    · exact ⟨0, by decide, r, rfl⟩
    · exact ⟨2, by decide, r, rfl⟩
    · exact ⟨3, by decide, r, rfl⟩
    · exact ⟨5, by decide, r, rfl⟩
    · obtain ⟨r2, rfl⟩ := c rfl
      exact ⟨4, by decide, r2, rfl⟩
theorem cls_facts (q : Nat) (h : q < 6) : 1 ≤ clsB q ∧ clsB q ≤ 17 ∧ clsB q ≠ 13 ∧ moreOf (clsB q) = 0 ∧ (addOf (clsB q)).length < (asksOf (clsB q)).length := by
  match q, h with
  | 0, _ | 1, _ | 2, _ | 3, _ | 4, _ | 5, _ => decide
/-- all that is kept -/
structure Okay (s : St) : Prop where
  wf : Wf s
  inv : InvS s
  deep : s.2.length ≤ 32
  chn : Chn (kindsS s)
theorem okay_nil : Okay ([], []) := ⟨wf_nil, invS_nil, by simp, trivial⟩
theorem Okay.do {s : St} (h : Okay s) (n : Int) : Okay (doS n s) := ⟨wf_do n s h.wf, inv_do n s h.inv h.deep, do_deep n s h.deep, chn_do n s h.chn⟩
theorem Okay.put {s : St} (h : Okay s) (hl : s.1.length < 499) (x : I3) (hx : okI x) (hon : onB x.1 = true) (hm : moreA x.1 = 0) (hg : goesB x.1 = false) : Okay (s.1 ++ [x], s.2) :=
  ⟨wf_put s h.wf hl x, inv_put s h.inv x hx hon hm hg, h.deep, h.chn⟩
theorem do_le (n : Int) (s : St) : (doS n s).1.length ≤ s.1.length + 1 := by
  by_cases ha : ansS n s = 0
  · obtain ⟨m, rfl, h1, h2, _⟩ := ans_ok ha
    rw [(do_kinds m s ha).2]
    split <;> omega
  · rw [doS, if_neg ha]; omega
/-- one closing word: closed, or refused -/
theorem cls_step (q : Nat) (hq : q < 6) (s : St) (hl : s.1.length < 499) :
    (ansS ((clsB q : Nat) : Int) s = 0 ∧ (doS ((clsB q : Nat) : Int) s).2.length < s.2.length) ∨ ((ansS ((clsB q : Nat) : Int) s == 0) = false ∧ doS ((clsB q : Nat) : Int) s = s ∧ ¬ ∃ rest, kindsS s = asksOf (clsB q) ++ rest) := by
  obtain ⟨h1, h2, h3, h4, h5⟩ := cls_facts q hq
  by_cases hf : ∃ rest, kindsS s = asksOf (clsB q) ++ rest
  · have ha := ans_fit (clsB q) s h1 h2 h3 hf hl (.inr h4)
    obtain ⟨⟨rest, e1, e2⟩, _⟩ := do_kinds _ s ha
    refine .inl ⟨ha, ?_⟩
    have l1 := congrArg List.length e1
    have l2 := congrArg List.length e2
    simp only [kindsS, List.length_map, List.length_append] at l1 l2
    omega
  · have ha := ans_bad (clsB q) s h1 h2 hf
    refine .inr ⟨by rw [ha]; rfl, ?_, hf⟩
    rw [doS, if_neg (by rw [ha]; decide)]
end Go.Proofs.Ytdpoobkfhmmbjaa
