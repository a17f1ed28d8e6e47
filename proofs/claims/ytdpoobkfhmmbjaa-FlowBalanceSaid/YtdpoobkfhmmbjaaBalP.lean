/- Parts that are opened, and closed in the other order: the plain facts. -/
import Derived.Test.YtdpoobkfhmmbjaaWf
namespace Go.Proofs.Ytdpoobkfhmmbjaa
def kindB (c : Nat) : Int := ([0, 1, 2, 2, 3] : List Int).getD c 0
def begB (c : Nat) : Int := ([1, 4, 9, 10, 14] : List Int).getD c 0
def endB (c : Nat) : Int := ([3, 7, 11, 12, 17] : List Int).getD c 0
def mineB (k c : Nat) : Prop := k = c ∨ (2 ≤ k ∧ k < 4 ∧ 2 ≤ c ∧ c < 4)
structure Inv (xs : List Nat) (s : St) (b : Nat) : Prop where
  kinds : s.2.map (·.kind) = (xs.map kindB).reverse
  len : s.1.length ≤ b
  wf : Wf s
theorem Inv.length {xs : List Nat} {s : St} {b : Nat} (I : Inv xs s b) : s.2.length = xs.length := by
  have := congrArg List.length I.kinds
  simpa using this
theorem laid_le (n : Nat) (c : List I3) (b : Nat) (h : c.length ≤ b) : (laidS n c).length ≤ b + 1 := by have := (laid_length n c).2.1; omega
theorem open_step {xs : List Nat} {s : St} {b : Nat} (I : Inv xs s b) (hx : xs.length < 32) (hb : b < 499) (c : Nat) (hc : c < 5) : ansS (begB c) s = 0 ∧ Inv (xs ++ [c]) (doS (begB c) s) (b + 1) := by
  obtain ⟨cd, st⟩ := s
  have hl := I.length
  have hlen := I.len
  have hk := I.kinds
  dsimp only at hl hlen hk
  have key : ansS (begB c) (cd, st) = 0 := by
    match c, hc with
    | 0, _ | 1, _ | 2, _ | 3, _ | 4, _ => simp [ansS, fitsS, asksOf, laysOf, moreOf, begB]; omega
  refine ⟨key, ?_, ?_, wf_do _ _ I.wf⟩
  · rw [doS, if_pos key]
    match c, hc with
    | 0, _ | 1, _ | 2, _ | 3, _ | 4, _ =>
      rw [List.map_append, List.reverse_append, ← hk]; rfl
  · rw [doS, if_pos key]
    match c, hc with
    | 0, _ => exact laid_le 1 cd b hlen
    | 1, _ => exact laid_le 4 cd b hlen
    | 2, _ => exact laid_le 9 cd b hlen
    | 3, _ => exact laid_le 10 cd b hlen
    | 4, _ => exact laid_le 14 cd b hlen
theorem Inv.top {xs : List Nat} {c : Nat} {s : St} {b : Nat} (I : Inv (xs ++ [c]) s b) : ∃ q r, s.2 = q :: r ∧ q.kind = kindB c ∧ r.map (·.kind) = (xs.map kindB).reverse := by
  have hk := I.kinds
  rw [List.map_append, List.reverse_append] at hk
  cases hs : s.2 with
  | nil => rw [hs] at hk; cases hk
  | cons q r =>
    rw [hs] at hk
    simp at hk
    exact ⟨q, r, rfl, hk.1, by simpa using hk.2⟩
theorem close_other {xs : List Nat} {c k : Nat} {s : St} {b : Nat} (I : Inv (xs ++ [c]) s b) (hc : c < 5) (hk : k < 5) (hm : ¬ mineB k c) : ansS (endB k) s = -22 := by
  obtain ⟨q, r, hs, hq, _⟩ := I.top
  obtain ⟨cd, st⟩ := s
  dsimp only at hs
  subst hs
  have hne : kindB c ≠ kindB k := by
    unfold mineB at hm
    match c, k, hc, hk with
    | 0, 0, _, _ | 1, 1, _, _ | 2, 2, _, _ | 3, 3, _, _ | 4, 4, _, _ | 2, 3, _, _ | 3, 2, _, _ => exact absurd (by omega) hm
    | 0, 1, _, _ | 0, 2, _, _ | 0, 3, _, _ | 0, 4, _, _ | 1, 0, _, _ | 1, 2, _, _ | 1, 3, _, _ | 1, 4, _, _ | 2, 0, _, _ | 2, 1, _, _ | 2, 4, _, _ | 3, 0, _, _ | 3, 1, _, _ | 3, 4, _, _ | 4, 0, _, _ | 4, 1, _, _ | 4, 2, _, _ | 4, 3, _, _ => decide
  have hf : ∀ n : Nat, asksOf n = [kindB k] → fitsS (q :: r) (asksOf n) = false := fun n h => by
    rw [h]; simp [fitsS, hq, hne]
  match k, hk with
  | 0, _ => rw [show endB 0 = 3 from rfl, ansS, if_pos (by decide), show (3 : Int).toNat = 3 from rfl, hf 3 rfl]; rfl
  | 1, _ => rw [show endB 1 = 7 from rfl, ansS, if_pos (by decide), show (7 : Int).toNat = 7 from rfl, hf 7 rfl]; rfl
  | 2, _ => rw [show endB 2 = 11 from rfl, ansS, if_pos (by decide), show (11 : Int).toNat = 11 from rfl, hf 11 rfl]; rfl
  | 3, _ => rw [show endB 3 = 12 from rfl, ansS, if_pos (by decide), show (12 : Int).toNat = 12 from rfl, hf 12 rfl]; rfl
  | 4, _ => rw [show endB 4 = 17 from rfl, ansS, if_pos (by decide), show (17 : Int).toNat = 17 from rfl, hf 17 rfl]; rfl
theorem close_mine {xs : List Nat} {c : Nat} {s : St} {b : Nat} (I : Inv (xs ++ [c]) s b) (hc : c < 5) (hb : b < 499) : ansS (endB c) s = 0 ∧ Inv xs (doS (endB c) s) (b + 1) := by
  obtain ⟨q, r, hs, hq, hr⟩ := I.top
  obtain ⟨cd, st⟩ := s
  dsimp only at hs
  subst hs
  have hlen := I.len
  dsimp only at hlen
  have key : ansS (endB c) (cd, q :: r) = 0 := by
    match c, hc with
    | 0, _ | 1, _ | 2, _ | 3, _ | 4, _ =>
      have h2 : q.kind = _ := hq
      simp [kindB] at h2
      simp [ansS, fitsS, asksOf, laysOf, moreOf, endB, h2]
      try omega
  refine ⟨key, ?_, ?_, wf_do _ _ I.wf⟩
  · rw [doS, if_pos key]
    match c, hc with
    | 0, _ | 1, _ | 2, _ | 3, _ | 4, _ => exact hr
  · rw [doS, if_pos key]
    match c, hc with
    | 0, _ => exact Nat.le_trans (Nat.le_of_eq (setA_length _ _ _)) (laid_le 3 cd b hlen)
    | 1, _ => exact Nat.le_trans (Nat.le_of_eq (setA_length _ _ _)) (laid_le 7 cd b hlen)
    | 2, _ => exact Nat.le_trans (Nat.le_of_eq ((closeG_length _ _).trans (setA_length _ _ _))) (laid_le 11 cd b hlen)
    | 3, _ => exact Nat.le_trans (Nat.le_of_eq ((closeG_length _ _).trans (setA_length _ _ _))) (laid_le 12 cd b hlen)
    | 4, _ => exact Nat.le_trans (Nat.le_of_eq (closeG_length _ _)) (laid_le 17 cd b hlen)
end Go.Proofs.Ytdpoobkfhmmbjaa
