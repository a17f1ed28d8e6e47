/- Loops one within the other, and leaves in the innermost: the plain facts. -/
import Derived.Test.YtdpoobkfhmmbjaaFnw
namespace Go.Proofs.Ytdpoobkfhmmbjaa
open Go.RowKit
def eachB (wi : Bool) : Nat := if wi then 2 else 1
def stk : Nat → List Prt
  | 0 => []
  | i + 1 => ⟨2, (i : Int) + 1, []⟩ :: stk i
theorem stk_len (i : Nat) : (stk i).length = i := by
  induction i with
  | zero => rfl
  | succ i ih => simp [stk, ih]
def lvB (wi : Bool) (N j : Nat) : Bool := !wi || (j - N) % 2 == 1
def opL (wi : Bool) (N j : Nat) : Int := if j < N then 5 else if lvB wi N j = true then 9 else 4
theorem ans13 (c : List I3) (st : List Prt) (hh : hasLoop st = true) (hl : c.length < 499) : ansS 13 (c, st) = 0 := by
  rw [ansS, if_pos (by decide), show (13 : Int).toNat = 13 from rfl, show asksOf 13 = [] from rfl, fits_nil]
  simp [laysOf, moreOf, hh]
  omega
theorem get_snoc {c : List I3} {y : I3} {j : Nat} {x : I3} (h : (c ++ [y])[j]? = some x) : (j < c.length ∧ c[j]? = some x) ∨ (j = c.length ∧ x = y) := by
  by_cases hj : j < c.length
  · rw [List.getElem?_append_left hj] at h; exact .inl ⟨hj, h⟩
  · rw [List.getElem?_append_right (by omega)] at h
    cases hq : j - c.length with
    | zero => rw [hq] at h; simp at h; exact .inr ⟨by omega, h.symm⟩
    | succ m => rw [hq] at h; simp at h
theorem get_set {c : List I3} {g : Nat} {t : Int} {j : Nat} {x : I3} (h : (setA c g t)[j]? = some x) : ∃ y, c[j]? = some y ∧ x.1 = y.1 ∧ ((j = g ∧ x.2.1 = t) ∨ (j ≠ g ∧ x = y)) := by
  rw [setA_get] at h
  split at h
  · rename_i he
    cases hc : c[j]? with
    | none => rw [hc] at h; simp at h
    | some y => rw [hc] at h; simp at h; subst h; exact ⟨y, rfl, rfl, .inl ⟨he, rfl⟩⟩
  · rename_i he
    exact ⟨x, h, rfl, .inr ⟨he, rfl⟩⟩
theorem get_close (gs : List Int) : ∀ {c : List I3} {j : Nat} {x : I3}, (∀ g ∈ gs, 0 ≤ g) → (closeG c gs)[j]? = some x → ∃ y, c[j]? = some y ∧ x.1 = y.1 ∧ (((j : Int) ∈ gs ∧ x.2.1 = c.length) ∨ ((j : Int) ∉ gs ∧ x = y)) := by
  induction gs with
  | nil => intro c j x _ h; exact ⟨x, h, rfl, .inr ⟨by simp, rfl⟩⟩
  | cons g gs ih =>
    intro c j x hg h
    have hg0 := hg g (by simp)
    obtain ⟨y, hy, e1, h1⟩ := ih (c := setA c g.toNat c.length) (fun x hx => hg x (by simp [hx])) h
    obtain ⟨z, hz, e2, h2⟩ := get_set hy
    rw [setA_length] at h1
    refine ⟨z, hz, e1.trans e2, ?_⟩
    rcases h1 with ⟨a, b⟩ | ⟨a, b⟩
    · exact .inl ⟨by simp [a], b⟩
    · subst b
      rcases h2 with ⟨c1, c2⟩ | ⟨c1, c2⟩
      · exact .inl ⟨by rw [show (j : Int) = g by omega]; simp, c2⟩
      · exact .inr ⟨by simp only [List.mem_cons, not_or]; exact ⟨by omega, a⟩, c2⟩
/-- so many loops opened -/
structure Lf1 (i : Nat) (s : St) : Prop where
  len : s.1.length = i
  st : s.2 = stk i
  ops : ∀ (j : Nat) (x : I3), s.1[j]? = some x → x.1 = 5
theorem lf1_nil : Lf1 0 ([], []) := ⟨rfl, rfl, by simp⟩
theorem lf1_do {i : Nat} {s : St} (h : Lf1 i s) (hi : i < 10) : ansS 9 s = 0 ∧ Lf1 (i + 1) (doS 9 s) := by
  obtain ⟨c, st⟩ := s
  obtain ⟨h1, h2, h3⟩ := h
  dsimp only at h1 h2 h3
  subst h2
  have ha : ansS 9 (c, stk i) = 0 := ans_fit 9 (c, stk i) (by decide) (by decide) (by decide) ⟨kindsS (c, stk i), rfl⟩ (by dsimp only; omega) (.inl (by rw [stk_len]; omega))
  refine ⟨ha, ?_⟩
  rw [doS, if_pos ha]
  show Lf1 (i + 1) (c ++ [(5, 0, 0)], ⟨2, (c.length : Int) + 1, []⟩ :: stk i)
  refine ⟨by simp [h1], by rw [h1]; rfl, fun j x hx => ?_⟩
  rcases get_snoc hx with ⟨_, h⟩ | ⟨_, rfl⟩
  · exact h3 j x h
  · rfl
/-- .. so many leaves -/
structure Lf2 (wi : Bool) (N t : Nat) (s : St) (gs : List Int) : Prop where
  len : s.1.length = N + t * eachB wi
  st : s.2 = ⟨2, (N : Int), gs⟩ :: stk (N - 1)
  ops : ∀ (j : Nat) (x : I3), s.1[j]? = some x → x.1 = opL wi N j
  gin : ∀ (j : Nat) (x : I3), s.1[j]? = some x → x.1 = 9 → (j : Int) ∈ gs
  gge : ∀ g ∈ gs, 0 ≤ g ∧ g < s.1.length
theorem lf2_first (wi : Bool) {N : Nat} {s : St} (h : Lf1 N s) (hN : 0 < N) : Lf2 wi N 0 s [] := by
  obtain ⟨h1, h2, h3⟩ := h
  refine ⟨by omega, ?_, fun j x hx => ?_, fun j x hx h9 => ?_, by simp⟩
  · rw [h2]
    obtain ⟨m, rfl⟩ : ∃ m, N = m + 1 := ⟨N - 1, by omega⟩
    simp [stk]
  · have := (List.getElem?_eq_some_iff.1 hx).1
    rw [h3 j x hx, opL, if_pos (by omega)]
  · have := h3 j x hx
    omega
theorem lf2_leave {N t : Nat} {s : St} {gs : List Int} (h : Lf2 false N t s gs) (hN : N ≤ 10) (ht : t < 10) : ansS 13 s = 0 ∧ ∃ gs', Lf2 false N (t + 1) (doS 13 s) gs' := by
  obtain ⟨c, st⟩ := s
  obtain ⟨h1, h2, h3, h4, h5⟩ := h
  dsimp only at h1 h2 h3 h4 h5
  simp only [eachB] at h1
  subst h2
  have ha : ansS 13 (c, (⟨2, (N : Int), gs⟩ : Prt) :: stk (N - 1)) = 0 := ans13 _ _ (by simp [hasLoop]) (by simp at h1; omega)
  refine ⟨ha, gs ++ [(c.length : Int)], ?_⟩
  rw [doS, if_pos ha]
  show Lf2 false N (t + 1) (c ++ [(9, 0, 0)], ⟨2, (N : Int), gs ++ [(c.length : Int)]⟩ :: stk (N - 1)) _
  refine ⟨by simp [eachB] at h1 ⊢; omega, rfl, fun j x hx => ?_, fun j x hx h9 => ?_, fun g hg => ?_⟩
  · rcases get_snoc hx with ⟨_, h⟩ | ⟨h, rfl⟩
    · exact h3 j x h
    · rw [opL, if_neg (by simp at h1; omega)]; rfl
  · rcases get_snoc hx with ⟨_, h⟩ | ⟨h, rfl⟩
    · exact List.mem_append.2 (.inl (h4 j x h h9))
    · simp [h]
  · simp
    rcases List.mem_append.1 hg with hg | hg
    · have := h5 g hg; omega
    · simp at hg; omega
theorem lf2_within {N t : Nat} {s : St} {gs : List Int} (h : Lf2 true N t s gs) (hN : N ≤ 10) (hN0 : 0 < N) (ht : t < 10) : ansS 1 s = 0 ∧ ansS 13 (doS 1 s) = 0 ∧ ansS 3 (doS 13 (doS 1 s)) = 0 ∧ ∃ gs', Lf2 true N (t + 1) (doS 3 (doS 13 (doS 1 s))) gs' := by
  obtain ⟨c, st⟩ := s
  obtain ⟨h1, h2, h3, h4, h5⟩ := h
  dsimp only at h1 h2 h3 h4 h5
  simp only [eachB, if_true] at h1
  subst h2
  have ha : ansS 1 (c, (⟨2, (N : Int), gs⟩ : Prt) :: stk (N - 1)) = 0 := ans_fit 1 _ (by decide) (by decide) (by decide) ⟨_, rfl⟩ (by dsimp only; omega) (.inl (by simp [stk_len]; omega))
  have e1 : doS 1 (c, (⟨2, (N : Int), gs⟩ : Prt) :: stk (N - 1)) = (c ++ [(4, 0, 0)], ⟨0, (c.length : Int), []⟩ :: ⟨2, (N : Int), gs⟩ :: stk (N - 1)) := by rw [doS, if_pos ha]; rfl
  rw [e1]
  have hb : ansS 13 (c ++ [(4, 0, 0)], (⟨0, (c.length : Int), []⟩ : Prt) :: ⟨2, (N : Int), gs⟩ :: stk (N - 1)) = 0 := ans13 _ _ (by simp [hasLoop]) (by simp; omega)
  have e2 : doS 13 (c ++ [(4, 0, 0)], (⟨0, (c.length : Int), []⟩ : Prt) :: ⟨2, (N : Int), gs⟩ :: stk (N - 1)) = (c ++ [(4, 0, 0)] ++ [(9, 0, 0)], ⟨0, (c.length : Int), []⟩ :: ⟨2, (N : Int), gs ++ [(c.length : Int) + 1]⟩ :: stk (N - 1)) := by
    rw [doS, if_pos hb]
    show (c ++ [(4, 0, 0)] ++ [(9, 0, 0)], addGap (((c ++ [((4 : Int), (0 : Int), (0 : Int))]).length : Nat) : Int) _) = _
    simp [addGap]
  rw [e2]
  have hc : ansS 3 (c ++ [(4, 0, 0)] ++ [(9, 0, 0)], (⟨0, (c.length : Int), []⟩ : Prt) :: ⟨2, (N : Int), gs ++ [(c.length : Int) + 1]⟩ :: stk (N - 1)) = 0 := ans_fit 3 _ (by decide) (by decide) (by decide) ⟨_, rfl⟩ (by simp; omega) (.inr rfl)
  refine ⟨ha, hb, hc, gs ++ [(c.length : Int) + 1], ?_⟩
  rw [doS, if_pos hc]
  show Lf2 true N (t + 1) (setA (c ++ [(4, 0, 0)] ++ [(9, 0, 0)]) ((c.length : Int)).toNat (c ++ [(4, 0, 0)] ++ [(9, 0, 0)]).length, ⟨2, (N : Int), gs ++ [(c.length : Int) + 1]⟩ :: stk (N - 1)) _
  have hget : ∀ (j : Nat) (x : I3), (setA (c ++ [(4, 0, 0)] ++ [(9, 0, 0)]) ((c.length : Int)).toNat (c ++ [(4, 0, 0)] ++ [(9, 0, 0)]).length)[j]? = some x → (j < c.length ∧ ∃ y, c[j]? = some y ∧ x.1 = y.1) ∨ (j = c.length ∧ x.1 = 4) ∨ (j = c.length + 1 ∧ x.1 = 9) := by
    intro j x hx
    obtain ⟨y, hy, e, _⟩ := get_set hx
    rcases get_snoc hy with ⟨_, hy⟩ | ⟨hj, rfl⟩
    · rcases get_snoc hy with ⟨hj, hy⟩ | ⟨hj, rfl⟩
      · exact .inl ⟨hj, y, hy, e⟩
      · exact .inr (.inl ⟨hj, e⟩)
    · exact .inr (.inr ⟨by simpa using hj, e⟩)
  refine ⟨?_, rfl, fun j x hx => ?_, fun j x hx h9 => ?_, fun g hg => ?_⟩
  · rw [setA_length]; simp [eachB]; omega
  · rcases hget j x hx with ⟨_, y, hy, e⟩ | ⟨hj, e⟩ | ⟨hj, e⟩
    · rw [e]; exact h3 j y hy
    · rw [e, opL, if_neg (by omega), if_neg (by simp [lvB]; omega)]
    · rw [e, opL, if_neg (by omega), if_pos (by simp [lvB]; omega)]
  · rcases hget j x hx with ⟨_, y, hy, e⟩ | ⟨hj, e⟩ | ⟨hj, e⟩
    · exact List.mem_append.2 (.inl (h4 j y hy (by rw [← e]; exact h9)))
    · omega
    · simp [hj]
  · rw [setA_length]
    simp
    rcases List.mem_append.1 hg with hg | hg
    · have := h5 g hg; omega
    · simp at hg; omega
/-- .. so many loops closed -/
structure Lf3 (wi : Bool) (N e i : Nat) (s : St) : Prop where
  len : s.1.length = e + i
  st : ∃ gs, s.2 = (if N - i = 0 then [] else ⟨2, ((N - i : Nat) : Int), gs⟩ :: stk (N - i - 1)) ∧ (i = 0 ∨ gs = []) ∧ (∀ g ∈ gs, 0 ≤ g ∧ g < e) ∧ (i = 0 → ∀ (j : Nat) (x : I3), s.1[j]? = some x → x.1 = 9 → (j : Int) ∈ gs)
  ops : ∀ (j : Nat) (x : I3), s.1[j]? = some x → x.1 = if j < e then opL wi N j else 7
  lo : ∀ (j : Nat) (x : I3), s.1[j]? = some x → e ≤ j → x.2.1 = (N : Int) - ((j : Int) - (e : Int))
  lvs : i ≠ 0 → ∀ (j : Nat) (x : I3), s.1[j]? = some x → x.1 = 9 → x.2.1 = (e : Int) + 1
theorem lf3_first {wi : Bool} {N t : Nat} {s : St} {gs : List Int} (h : Lf2 wi N t s gs) (hN : 0 < N) : Lf3 wi N (N + t * eachB wi) 0 s := by
  obtain ⟨h1, h2, h3, h4, h5⟩ := h
  rw [h1] at h5
  refine ⟨h1, ⟨gs, by rw [h2, if_neg (by omega)]; rfl, .inl rfl, h5, fun _ => h4⟩, fun j x hx => ?_, fun j x hx hj => ?_, fun h => absurd rfl h⟩
  · have := (List.getElem?_eq_some_iff.1 hx).1
    rw [if_pos (by omega)]; exact h3 j x hx
  · have := (List.getElem?_eq_some_iff.1 hx).1
    omega
theorem lf3_loop {wi : Bool} {N e i : Nat} {s : St} (h : Lf3 wi N e i s) (hi : i < N) (hN : N ≤ 10) (he : e ≤ 100) : ansS 11 s = 0 ∧ Lf3 wi N e (i + 1) (doS 11 s) := by
  obtain ⟨c, st⟩ := s
  obtain ⟨h1, ⟨gs, h2, h2a, h2b, h2c⟩, h3, h4, h5⟩ := h
  dsimp only at h1 h2 h2c h3 h4 h5
  rw [if_neg (by omega)] at h2
  subst h2
  have ha : ansS 11 (c, (⟨2, ((N - i : Nat) : Int), gs⟩ : Prt) :: stk (N - i - 1)) = 0 := ans_fit 11 _ (by decide) (by decide) (by decide) ⟨_, rfl⟩ (by dsimp only; omega) (.inr rfl)
  refine ⟨ha, ?_⟩
  rw [doS, if_pos ha]
  show Lf3 wi N e (i + 1) (closeG (setA (c ++ [(7, 0, 0)]) ((c.length : Int)).toNat ((N - i : Nat) : Int)) gs, stk (N - i - 1))
  have hget : ∀ (j : Nat) (x : I3), (closeG (setA (c ++ [(7, 0, 0)]) ((c.length : Int)).toNat ((N - i : Nat) : Int)) gs)[j]? = some x →
      (j < c.length ∧ ∃ y, c[j]? = some y ∧ x.1 = y.1 ∧ (((j : Int) ∈ gs ∧ x.2.1 = (c.length : Int) + 1) ∨ ((j : Int) ∉ gs ∧ x = y))) ∨ (j = c.length ∧ x.1 = 7 ∧ x.2.1 = ((N - i : Nat) : Int)) := by
    intro j x hx
    obtain ⟨y, hy, e1, k1⟩ := get_close gs (fun g hg => (h2b g hg).1) hx
    rw [setA_length] at k1
    obtain ⟨z, hz, e2, k2⟩ := get_set hy
    rcases get_snoc hz with ⟨hj, hz⟩ | ⟨hj, rfl⟩
    · refine .inl ⟨hj, z, hz, e1.trans e2, ?_⟩
      rcases k2 with ⟨k2, _⟩ | ⟨_, rfl⟩
      · omega
      · rcases k1 with ⟨a, b⟩ | ⟨a, b⟩
        · exact .inl ⟨a, by rw [b]; simp⟩
        · exact .inr ⟨a, b⟩
    · refine .inr ⟨hj, e1.trans e2, ?_⟩
      rcases k1 with ⟨a, _⟩ | ⟨_, rfl⟩
      · have := h2b _ a; omega
      · rcases k2 with ⟨_, k2⟩ | ⟨k2, _⟩
        · exact k2
        · omega
  refine ⟨by rw [closeG_length, setA_length]; simp; omega, ⟨[], ?_, .inr rfl, by simp, fun h => by omega⟩, fun j x hx => ?_, fun j x hx hj => ?_, fun _ j x hx h9 => ?_⟩
  · by_cases hz : N - (i + 1) = 0
    · rw [if_pos hz, show N - i - 1 = 0 by omega]; rfl
    · rw [if_neg hz]
      obtain ⟨m, hm⟩ : ∃ m, N - i - 1 = m + 1 := ⟨N - i - 2, by omega⟩
      rw [hm, show N - (i + 1) - 1 = m by omega, show N - (i + 1) = m + 1 by omega]
      simp [stk]
  · rcases hget j x hx with ⟨_, y, hy, e1, _⟩ | ⟨hj, e1, _⟩
    · rw [e1]; exact h3 j y hy
    · rw [e1, if_neg (by omega)]
  · rcases hget j x hx with ⟨_, y, hy, e1, k⟩ | ⟨hj', _, e1⟩
    · rcases k with ⟨a, _⟩ | ⟨_, rfl⟩
      · have := h2b _ a; omega
      · exact h4 j x hy hj
    · rw [e1]; omega
  · rcases hget j x hx with ⟨hj, y, hy, e1, k⟩ | ⟨_, e1, _⟩
    · by_cases h0 : i = 0
      · have hm := h2c h0 j y hy (by rw [← e1]; exact h9)
        rcases k with ⟨_, b⟩ | ⟨a, _⟩
        · rw [b]; omega
        · exact absurd hm a
      · rcases h2a with h | h
        · exact absurd h h0
        · subst h
          rcases k with ⟨a, _⟩ | ⟨_, rfl⟩
          · simp at a
          · exact h5 h0 j x hy h9
    · omega
end Go.Proofs.Ytdpoobkfhmmbjaa
