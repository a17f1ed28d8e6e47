/- The plain state stays in order. -/
import Derived.Test.YtdpoobkfhmmbjaaActS
namespace Go.Proofs.Ytdpoobkfhmmbjaa
theorem WfP.grow {n m : Nat} {q : Prt} (h : WfP n q) (hm : n ≤ m) : WfP m q :=
  ⟨h.1, h.2.1, fun hk => by have := h.2.2.1 hk; omega, fun g hg => by have := h.2.2.2.1 g hg; omega, by have := h.2.2.2.2; omega⟩
theorem addGap_mem (n : Int) (st : List Prt) (q : Prt) (h : q ∈ addGap n st) : q ∈ st ∨ ∃ q0 ∈ st, q0.kind = 2 ∧ q = ⟨q0.kind, q0.at_, q0.gaps ++ [n]⟩ := by
  induction st with
  | nil => simp [addGap] at h
  | cons x st ih =>
    unfold addGap at h
    split at h
    · rename_i hx
      rcases List.mem_cons.1 h with rfl | h
      · exact .inr ⟨x, by simp, hx, rfl⟩
      · exact .inl (by simp [h])
    · rcases List.mem_cons.1 h with rfl | h
      · exact .inl (by simp)
      · rcases ih h with h | ⟨q0, h0, h1, h2⟩
        · exact .inl (by simp [h])
        · exact .inr ⟨q0, by simp [h0], h1, h2⟩
theorem wfP_gap {n m : Nat} {q : Prt} (h : WfP n q) (hm : n < m) (a : Int) (ha : a = n) : WfP m ⟨q.kind, q.at_, q.gaps ++ [a]⟩ := by
  subst ha
  refine ⟨h.1, h.2.1, fun hk => by have := h.2.2.1 hk; dsimp only; omega, fun g hg => ?_, ?_⟩
  · rcases List.mem_append.1 hg with hg | hg
    · have := h.2.2.2.1 g hg; omega
    · simp at hg; omega
  · have := h.2.2.2.2
    simp
    omega
theorem ans_ok {n : Int} {s : St} (h : ansS n s = 0) : ∃ m : Nat, n = m ∧ 1 ≤ m ∧ m ≤ 17 ∧ fitsS s.2 (asksOf m) = true ∧ (laysOf m ≠ 0 → s.1.length < 499) ∧ (m = 13 → hasLoop s.2 = true) ∧ (0 < moreOf m → s.2.length < 32) := by
  unfold ansS at h
  split at h
  · rename_i hn
    obtain ⟨m, rfl⟩ := Int.eq_ofNat_of_zero_le (show 0 ≤ n by omega)
    rw [show ((m : Int)).toNat = m from rfl] at h
    split at h
    · cases h
    · rename_i h1
      split at h
      · cases h
      · rename_i h2
        simp at h1 h2
        refine ⟨m, rfl, by omega, by omega, h1.1, fun hl => ?_, fun hm => ?_, fun hm => ?_⟩
        · exact h2.1 hl
        · subst hm; exact h1.2 rfl
        · exact h2.2 hm
  · cases h
theorem wf_do (n : Int) (s : St) (h : Wf s) : Wf (doS n s) := by
  obtain ⟨c, st⟩ := s
  unfold doS
  split
  · rename_i hans
    obtain ⟨m, rfl, h1, h2, hf, hl, h13, _⟩ := ans_ok hans
    rw [show ((m : Int)).toNat = m from rfl]
    have hll := laid_length m c
    have hlen : (laidS m c).length ≤ 499 := by
      by_cases h0 : laysOf m = 0
      · have : laidS m c = c := by simp [laidS, h0]
        rw [this]; exact h.len
      · have := hl h0
        have := hll.2.1
        dsimp only at *
        omega
    have hW : ∀ q ∈ st, WfP (laidS m c).length q := fun q hq => (h.parts q hq).grow hll.1
    have hc1 : c.length ≤ 499 := h.len
    have hold := h.parts
    dsimp only at hf hold h13
    match m, h1, h2 with
    | 1, _, _ =>
      show Wf (laidS 1 c, ⟨0, (c.length : Int), []⟩ :: st)
      refine ⟨hlen, fun q hq => ?_⟩
      rcases List.mem_cons.1 hq with rfl | hq
      · exact ⟨by dsimp only; omega, by dsimp only; omega, fun _ => by have := hll.2.2 (by decide); dsimp only; omega, by simp, by simp⟩
      · exact hW q hq
    | 4, _, _ =>
      show Wf (laidS 4 c, ⟨1, (c.length : Int), []⟩ :: st)
      refine ⟨hlen, fun q hq => ?_⟩
      rcases List.mem_cons.1 hq with rfl | hq
      · exact ⟨by dsimp only; omega, by dsimp only; omega, fun hk => by simp at hk, by simp, by simp⟩
      · exact hW q hq
    | 9, _, _ =>
      show Wf (laidS 9 c, ⟨2, (c.length : Int) + 1, []⟩ :: st)
      refine ⟨hlen, fun q hq => ?_⟩
      rcases List.mem_cons.1 hq with rfl | hq
      · exact ⟨by dsimp only; omega, by dsimp only; omega, fun hk => by simp at hk, by simp, by simp⟩
      · exact hW q hq
    | 10, _, _ =>
      show Wf (laidS 10 c, ⟨2, (c.length : Int) + 1, [(c.length : Int)]⟩ :: st)
      refine ⟨hlen, fun q hq => ?_⟩
      have hx := hll.2.2 (by decide)
      rcases List.mem_cons.1 hq with rfl | hq
      · exact ⟨by dsimp only; omega, by dsimp only; omega, fun hk => by simp at hk, fun g hg => by simp at hg; subst hg; dsimp only; omega, by simp; omega⟩
      · exact hW q hq
    | 14, _, _ =>
      show Wf (laidS 14 c, ⟨3, (c.length : Int), []⟩ :: st)
      refine ⟨hlen, fun q hq => ?_⟩
      rcases List.mem_cons.1 hq with rfl | hq
      · exact ⟨by dsimp only; omega, by dsimp only; omega, fun hk => by simp at hk, by simp, by simp⟩
      · exact hW q hq
    | 15, _, _ =>
      show Wf (laidS 15 c, ⟨4, (c.length : Int), []⟩ :: st)
      refine ⟨hlen, fun q hq => ?_⟩
      rcases List.mem_cons.1 hq with rfl | hq
      · exact ⟨by dsimp only; omega, by dsimp only; omega, fun _ => by have := hll.2.2 (by decide); dsimp only; omega, by simp, by simp⟩
      · exact hW q hq
    | 2, _, _ =>
      obtain ⟨q, r, rfl, _⟩ := fits1 hf
      show Wf (setA (laidS 2 c) q.at_.toNat (laidS 2 c).length, ⟨0, (c.length : Int), []⟩ :: r)
      refine ⟨by rw [setA_length]; exact hlen, fun x hx => ?_⟩
      rw [setA_length]
      rcases List.mem_cons.1 hx with rfl | hx
      · exact ⟨by dsimp only; omega, by dsimp only; omega, fun _ => by have := hll.2.2 (by decide); dsimp only; omega, by simp, by simp⟩
      · exact hW x (by simp [hx])
    | 3, _, _ =>
      obtain ⟨q, r, rfl, _⟩ := fits1 hf
      show Wf (setA (laidS 3 c) q.at_.toNat (laidS 3 c).length, r)
      refine ⟨by rw [setA_length]; exact hlen, fun x hx => ?_⟩
      rw [setA_length]
      exact hW x (by simp [hx])
    | 5, _, _ =>
      obtain ⟨q, r, rfl, _⟩ := fits1 hf
      show Wf (laidS 5 c, q :: ⟨0, (c.length : Int), []⟩ :: r)
      refine ⟨hlen, fun x hx => ?_⟩
      rcases List.mem_cons.1 hx with rfl | hx
      · exact hW x (by simp)
      rcases List.mem_cons.1 hx with rfl | hx
      · exact ⟨by dsimp only; omega, by dsimp only; omega, fun _ => by have := hll.2.2 (by decide); dsimp only; omega, by simp, by simp⟩
      · exact hW x (by simp [hx])
    | 6, _, _ =>
      obtain ⟨q, q2, r, rfl, _, _⟩ := fits2 hf
      show Wf (setA (setA (laidS 6 c) (c.length : Int).toNat q.at_) q2.at_.toNat (laidS 6 c).length, r)
      refine ⟨by rw [setA_length, setA_length]; exact hlen, fun x hx => ?_⟩
      rw [setA_length, setA_length]
      exact hW x (by simp [hx])
    | 7, _, _ =>
      obtain ⟨q, r, rfl, _⟩ := fits1 hf
      show Wf (setA (laidS 7 c) (c.length : Int).toNat q.at_, r)
      refine ⟨by rw [setA_length]; exact hlen, fun x hx => ?_⟩
      rw [setA_length]
      exact hW x (by simp [hx])
    | 8, _, _ =>
      obtain ⟨q, r, rfl, _⟩ := fits1 hf
      show Wf (setA (laidS 8 c) (c.length : Int).toNat q.at_, r)
      refine ⟨by rw [setA_length]; exact hlen, fun x hx => ?_⟩
      rw [setA_length]
      exact hW x (by simp [hx])
    | 11, _, _ =>
      obtain ⟨q, r, rfl, _⟩ := fits1 hf
      show Wf (closeG (setA (laidS 11 c) (c.length : Int).toNat q.at_) q.gaps, r)
      refine ⟨by rw [closeG_length, setA_length]; exact hlen, fun x hx => ?_⟩
      rw [closeG_length, setA_length]
      exact hW x (by simp [hx])
    | 12, _, _ =>
      obtain ⟨q, r, rfl, _⟩ := fits1 hf
      show Wf (closeG (setA (laidS 12 c) (c.length : Int).toNat q.at_) q.gaps, r)
      refine ⟨by rw [closeG_length, setA_length]; exact hlen, fun x hx => ?_⟩
      rw [closeG_length, setA_length]
      exact hW x (by simp [hx])
    | 13, _, _ =>
      have hx := hll.2.2 (by decide)
      show Wf (laidS 13 c, addGap (c.length : Int) st)
      refine ⟨hlen, fun q hq => ?_⟩
      rcases addGap_mem _ _ _ hq with hq | ⟨q0, hq0, _, rfl⟩
      · exact hW q hq
      · exact wfP_gap (hold q0 hq0) hx _ rfl
    | 16, _, _ =>
      obtain ⟨q, q2, r, rfl, _, _⟩ := fits2 hf
      have hxx := hll.2.2 (by decide)
      show Wf (setA (laidS 16 c) q.at_.toNat (laidS 16 c).length, ⟨q2.kind, q2.at_, q2.gaps ++ [(c.length : Int)]⟩ :: r)
      refine ⟨by rw [setA_length]; exact hlen, fun x hx => ?_⟩
      rw [setA_length]
      rcases List.mem_cons.1 hx with rfl | hx
      · exact wfP_gap (hold q2 (by simp)) hxx _ rfl
      · exact hW x (by simp [hx])
    | 17, _, _ =>
      obtain ⟨q, r, rfl, _⟩ := fits1 hf
      show Wf (closeG (laidS 17 c) q.gaps, r)
      refine ⟨by rw [closeG_length]; exact hlen, fun x hx => ?_⟩
      rw [closeG_length]
      exact hW x (by simp [hx])
    | m + 18, _, h => exact absurd h (by omega)
  · exact h
theorem wf_put (s : St) (h : Wf s) (hl : s.1.length < 499) (x : I3) : Wf (s.1 ++ [x], s.2) := ⟨by simp; omega, fun q hq => (h.parts q hq).grow (by simp)⟩
theorem wf_nil : Wf ([], []) := ⟨by simp, by simp⟩
end Go.Proofs.Ytdpoobkfhmmbjaa
