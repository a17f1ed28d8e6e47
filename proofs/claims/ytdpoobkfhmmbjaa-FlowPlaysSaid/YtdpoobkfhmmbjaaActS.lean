/- What the words' functions do, on the plain state. -/
import Derived.Test.YtdpoobkfhmmbjaaWords
import Derived.Test.YtdpoobkfhmmbjaaBack
import Derived.Test.YtdpoobkfhmmbjaaDo
namespace Go.Proofs.Ytdpoobkfhmmbjaa
open Go.RowKit Go.Shelf
def BldS (F : Nat → Prop) (w : World) (p : Nat) (code : List I3) (st : List Prt) : Prop := ∃ vc vp ps, Bld F w p vc vp code ps ∧ ps.map (·.1) = st.reverse
def ActPost (F : Nat → Prop) (w : World) (p : Nat) (s : St) (e : Ending) (w' : World) : Prop := e = .returned (.tuple #[]) ∧ BldS F w' p s.1 s.2 ∧ Kept F w w'
theorem map_snoc {ps : List (Prt × Value)} {st : List Prt} {q : Prt} (h : ps.map (·.1) = (q :: st).reverse) : ∃ ps' gv, ps = ps' ++ [(q, gv)] ∧ ps'.map (·.1) = st.reverse := by
  rw [List.reverse_cons] at h
  obtain ⟨l1, l2, rfl, h1, h2⟩ := List.map_eq_append_iff.1 h
  obtain ⟨x, rfl, hx⟩ : ∃ x, l2 = [x] ∧ x.1 = q := by
    cases l2 with
    | nil => simp at h2
    | cons x t =>
      simp at h2
      exact ⟨x, by simp [h2.2], h2.1⟩
  exact ⟨l1, x.2, by rw [← hx], h1⟩
theorem fits1 {st : List Prt} {k : Int} (h : fitsS st [k] = true) : ∃ q r, st = q :: r ∧ q.kind = k := by
  cases st with
  | nil => simp [fitsS] at h
  | cons q r => exact ⟨q, r, rfl, by simpa [fitsS] using h⟩
theorem fits2 {st : List Prt} {k k2 : Int} (h : fitsS st [k, k2] = true) : ∃ q q2 r, st = q :: q2 :: r ∧ q.kind = k ∧ q2.kind = k2 := by
  cases st with
  | nil => simp [fitsS] at h
  | cons q r =>
    cases r with
    | nil => simp [fitsS] at h
    | cons q2 r =>
      simp [fitsS] at h
      exact ⟨q, q2, r, rfl, h.1, h.2⟩
theorem laid_length (n : Nat) (c : List I3) : c.length ≤ (laidS n c).length ∧ (laidS n c).length ≤ c.length + 1 ∧ (laysOf n ≠ 0 → c.length < (laidS n c).length) := by
  unfold laidS
  split
  · exact ⟨Nat.le_refl _, by omega, fun h => absurd (by assumption) h⟩
  · simp
section
variable {F : Nat → Prop} {w : World} {p : Nat} {vc vp : Value} {code : List I3} {ps : List (Prt × Value)} {st : List Prt}
theorem BldS.snoc {q : Prt} {gv : Value} {c : List I3} (B : Bld F w p vc vp c (ps ++ [(q, gv)])) (hm : ps.map (·.1) = st.reverse) : BldS F w p c (q :: st) :=
  ⟨_, _, _, B, by simp [hm]⟩
/-- The word n's function, handed the place where the word was laid. -/
def Does (F : Nat → Prop) (w : World) (p bx n : Nat) (code : List I3) (st : List Prt) : Prop :=
  ∃ k c1 c2, fnOf p bx n = .func (.func k) c1 c2 ∧ (∀ args w, (callFunc k args).run Try.prog w = .ok (.enter k args) w) ∧
    Calls Try.prog k (c1 ++ #[.int .i64 (code.length : Int)] ++ c2) w (ActPost F w p (actS n code.length (laidS n code, st)))
theorem does_ok (n : Nat) (h1 : 1 ≤ n) (h2 : n ≤ 17) (h5 : n ≠ 5) (h13 : n ≠ 13) (h16 : n ≠ 16) (B : Bld F w p vc vp (laidS n code) ps) (hm : ps.map (·.1) = st.reverse) (hst : st.length ≤ 32) (hfit : fitsS st (asksOf n) = true) (hW : Wf (code, st)) (bx : Nat)
    (hbx : w.heap[bx]? = some (.cells #[.pointer (some ⟨p, 0, none⟩)] 24 (0, 0))) (hF : ∀ r, w.heap.size ≤ r → F r) : Does F w p bx n code st := by
  have hbc : w.cell? ⟨bx, 0, none⟩ = some (.pointer (some ⟨p, 0, none⟩)) := by rw [cell_block hbx]; rfl
  have hpl : ps.length < 99 := by
    have := congrArg List.length hm
    simp at this
    omega
  have hlen : code.length ≤ 499 := hW.len
  have hv : (0 : Int) ≤ (code.length : Int) ∧ (code.length : Int) < 1000 := by omega
  have hll := laid_length n code
  have hW2 := hW.parts
  dsimp only at hW2
  match n, h1, h2, h5, h13, h16 with
  | 1, _, _, _, _, _ => exact ⟨40, #[], #[.pointer (some ⟨bx, 0, none⟩)], rfl, fun args w => enters_of Try.func40 (by kernel_rfl) rfl args w, (clos40 B hF _ hv bx hbc hpl).mono fun e w' ⟨he, ⟨vp', hb⟩, hk⟩ => ⟨he, BldS.snoc hb hm, hk⟩⟩
  | 4, _, _, _, _, _ => exact ⟨44, #[], #[.pointer (some ⟨bx, 0, none⟩)], rfl, fun args w => enters_of Try.func44 (by kernel_rfl) rfl args w, (clos44 B hF _ hv bx hbc hpl).mono fun e w' ⟨he, ⟨vp', hb⟩, hk⟩ => ⟨he, BldS.snoc hb hm, hk⟩⟩
  | 9, _, _, _, _, _ => exact ⟨48, #[], #[.pointer (some ⟨bx, 0, none⟩)], rfl, fun args w => enters_of Try.func48 (by kernel_rfl) rfl args w, (clos48 B hF _ hv bx hbc hpl).mono fun e w' ⟨he, ⟨vp', hb⟩, hk⟩ => ⟨he, BldS.snoc hb hm, hk⟩⟩
  | 10, _, _, _, _, _ => exact ⟨49, #[], #[.pointer (some ⟨bx, 0, none⟩)], rfl, fun args w => enters_of Try.func49 (by kernel_rfl) rfl args w, (clos49 B hF _ hv bx hbc hpl).mono fun e w' ⟨he, ⟨vp', gv, hb⟩, hk⟩ => ⟨he, BldS.snoc hb hm, hk⟩⟩
  | 14, _, _, _, _, _ => exact ⟨52, #[], #[.pointer (some ⟨bx, 0, none⟩)], rfl, fun args w => enters_of Try.func52 (by kernel_rfl) rfl args w, (clos52 B hF _ hv bx hbc hpl).mono fun e w' ⟨he, ⟨vp', hb⟩, hk⟩ => ⟨he, BldS.snoc hb hm, hk⟩⟩
  | 15, _, _, _, _, _ => exact ⟨53, #[], #[.pointer (some ⟨bx, 0, none⟩)], rfl, fun args w => enters_of Try.func53 (by kernel_rfl) rfl args w, (clos53 B hF _ hv bx hbc hpl).mono fun e w' ⟨he, ⟨vp', hb⟩, hk⟩ => ⟨he, BldS.snoc hb hm, hk⟩⟩
  | 2, _, _, _, _, _ =>
    obtain ⟨q, r, rfl, hq⟩ := fits1 hfit
    obtain ⟨ps', gv, rfl, hm'⟩ := map_snoc hm
    have hqw := hW2 q (by simp)
    have hpl' : ps'.length < 99 := by simp at hpl; omega
    refine ⟨42, #[.pointer (some ⟨p, 0, none⟩)], #[], rfl, fun args w => enters_of Try.func42 (by kernel_rfl) rfl args w, (branch_any B hF (by omega) hpl' ⟨hqw.1, ?_⟩ _).mono fun e w' ⟨he, ⟨vp', hb⟩, hk⟩ => ⟨he, BldS.snoc hb hm', hk⟩⟩
    have := hqw.2.2.1 (.inl hq)
    dsimp only
    omega
  | 3, _, _, _, _, _ =>
    obtain ⟨q, r, rfl, hq⟩ := fits1 hfit
    obtain ⟨ps', gv, rfl, hm'⟩ := map_snoc hm
    have hqw := hW2 q (by simp)
    refine ⟨43, #[.pointer (some ⟨p, 0, none⟩)], #[], rfl, fun args w => enters_of Try.func43 (by kernel_rfl) rfl args w, (then_any B (by omega) ⟨hqw.1, ?_⟩ _).mono fun e w' ⟨he, ⟨vp', hb⟩, hk⟩ => ⟨he, ⟨_, _, _, hb, hm'⟩, hk⟩⟩
    have := hqw.2.2.1 (.inl hq)
    dsimp only
    omega
  | 6, _, _, _, _, _ =>
    obtain ⟨q, q2, r, rfl, hq, hq2⟩ := fits2 hfit
    obtain ⟨ps', gv, rfl, hm'⟩ := map_snoc hm
    obtain ⟨ps2, gv2, rfl, hm2⟩ := map_snoc hm'
    have hqw := hW2 q2 (by simp)
    refine ⟨46, #[.pointer (some ⟨p, 0, none⟩)], #[], rfl, fun args w => enters_of Try.func46 (by kernel_rfl) rfl args w, (repeat_any B code.length (hll.2.2 (by decide)) (by omega) ⟨hqw.1, ?_⟩).mono fun e w' ⟨he, ⟨vp', hb⟩, hk⟩ => ⟨he, ⟨_, _, _, hb, hm2⟩, hk⟩⟩
    have := hqw.2.2.1 (.inl hq2)
    dsimp only
    omega
  | 7, _, _, _, _, _ =>
    obtain ⟨q, r, rfl, hq⟩ := fits1 hfit
    obtain ⟨ps', gv, rfl, hm'⟩ := map_snoc hm
    exact ⟨47, #[.pointer (some ⟨p, 0, none⟩)], #[], rfl, fun args w => enters_of Try.func47 (by kernel_rfl) rfl args w, (back_any B code.length (hll.2.2 (by decide)) (by omega)).mono fun e w' ⟨he, ⟨vp', hb⟩, hk⟩ => ⟨he, ⟨_, _, _, hb, hm'⟩, hk⟩⟩
  | 8, _, _, _, _, _ =>
    obtain ⟨q, r, rfl, hq⟩ := fits1 hfit
    obtain ⟨ps', gv, rfl, hm'⟩ := map_snoc hm
    exact ⟨47, #[.pointer (some ⟨p, 0, none⟩)], #[], rfl, fun args w => enters_of Try.func47 (by kernel_rfl) rfl args w, (back_any B code.length (hll.2.2 (by decide)) (by omega)).mono fun e w' ⟨he, ⟨vp', hb⟩, hk⟩ => ⟨he, ⟨_, _, _, hb, hm'⟩, hk⟩⟩
  | 11, _, _, _, _, _ =>
    obtain ⟨q, r, rfl, hq⟩ := fits1 hfit
    obtain ⟨ps', gv, rfl, hm'⟩ := map_snoc hm
    have hqw := hW2 q (by simp)
    refine ⟨50, #[.pointer (some ⟨p, 0, none⟩)], #[], rfl, fun args w => enters_of Try.func50 (by kernel_rfl) rfl args w, (again_any B code.length (hll.2.2 (by decide)) (by omega) ?_).mono fun e w' ⟨he, ⟨vp', hb⟩, hk⟩ => ⟨he, ⟨_, _, _, hb, hm'⟩, hk⟩⟩
    intro g hg
    have := hqw.2.2.2.1 g hg
    omega
  | 12, _, _, _, _, _ =>
    obtain ⟨q, r, rfl, hq⟩ := fits1 hfit
    obtain ⟨ps', gv, rfl, hm'⟩ := map_snoc hm
    have hqw := hW2 q (by simp)
    refine ⟨50, #[.pointer (some ⟨p, 0, none⟩)], #[], rfl, fun args w => enters_of Try.func50 (by kernel_rfl) rfl args w, (again_any B code.length (hll.2.2 (by decide)) (by omega) ?_).mono fun e w' ⟨he, ⟨vp', hb⟩, hk⟩ => ⟨he, ⟨_, _, _, hb, hm'⟩, hk⟩⟩
    intro g hg
    have := hqw.2.2.2.1 g hg
    omega
  | 17, _, _, _, _, _ =>
    obtain ⟨q, r, rfl, hq⟩ := fits1 hfit
    obtain ⟨ps', gv, rfl, hm'⟩ := map_snoc hm
    have hqw := hW2 q (by simp)
    refine ⟨55, #[.pointer (some ⟨p, 0, none⟩)], #[], rfl, fun args w => enters_of Try.func55 (by kernel_rfl) rfl args w, (endCase_any B (by omega) ?_ _).mono fun e w' ⟨he, ⟨vp', hb⟩, hk⟩ => ⟨he, ⟨_, _, _, hb, hm'⟩, hk⟩⟩
    intro g hg
    have := hqw.2.2.2.1 g hg
    omega
  | n + 18, _, h, _, _, _ => exact absurd h (by omega)
end
end Go.Proofs.Ytdpoobkfhmmbjaa
