/- Do, on the plain state. -/
import Derived.Test.YtdpoobkfhmmbjaaActS
import Derived.Test.YtdpoobkfhmmbjaaDoOk
namespace Go.Proofs.Ytdpoobkfhmmbjaa
open Go.RowKit Go.Shelf
theorem more01 (n : Nat) (h2 : n ≤ 17) : moreOf n = 0 ∨ moreOf n = 1 := by
  match n, h2 with
  | 0, _ | 1, _ | 2, _ | 3, _ | 4, _ | 5, _ | 6, _ | 7, _ | 8, _ | 9, _ | 10, _ | 11, _ | 12, _ | 13, _ | 14, _ | 15, _ | 16, _ | 17, _ => decide
  | n + 18, h => exact absurd h (by omega)
theorem fn_ent (p bx n : Nat) (h1 : 1 ≤ n) (h2 : n ≤ 17) : ∃ k c1 c2, fnOf p bx n = .func (.func k) c1 c2 ∧ ∀ args w, (callFunc k args).run Try.prog w = .ok (.enter k args) w := by
  match n, h1, h2 with
  | 1, _, _ => exact ⟨_, _, _, rfl, fun args w => enters_of Try.func40 (by kernel_rfl) rfl args w⟩
  | 2, _, _ => exact ⟨_, _, _, rfl, fun args w => enters_of Try.func42 (by kernel_rfl) rfl args w⟩
  | 3, _, _ => exact ⟨_, _, _, rfl, fun args w => enters_of Try.func43 (by kernel_rfl) rfl args w⟩
  | 4, _, _ => exact ⟨_, _, _, rfl, fun args w => enters_of Try.func44 (by kernel_rfl) rfl args w⟩
  | 5, _, _ => exact ⟨_, _, _, rfl, fun args w => enters_of Try.func45 (by kernel_rfl) rfl args w⟩
  | 6, _, _ => exact ⟨_, _, _, rfl, fun args w => enters_of Try.func46 (by kernel_rfl) rfl args w⟩
  | 7, _, _ => exact ⟨_, _, _, rfl, fun args w => enters_of Try.func47 (by kernel_rfl) rfl args w⟩
  | 8, _, _ => exact ⟨_, _, _, rfl, fun args w => enters_of Try.func47 (by kernel_rfl) rfl args w⟩
  | 9, _, _ => exact ⟨_, _, _, rfl, fun args w => enters_of Try.func48 (by kernel_rfl) rfl args w⟩
  | 10, _, _ => exact ⟨_, _, _, rfl, fun args w => enters_of Try.func49 (by kernel_rfl) rfl args w⟩
  | 11, _, _ => exact ⟨_, _, _, rfl, fun args w => enters_of Try.func50 (by kernel_rfl) rfl args w⟩
  | 12, _, _ => exact ⟨_, _, _, rfl, fun args w => enters_of Try.func50 (by kernel_rfl) rfl args w⟩
  | 13, _, _ => exact ⟨_, _, _, rfl, fun args w => enters_of Try.func51 (by kernel_rfl) rfl args w⟩
  | 14, _, _ => exact ⟨_, _, _, rfl, fun args w => enters_of Try.func52 (by kernel_rfl) rfl args w⟩
  | 15, _, _ => exact ⟨_, _, _, rfl, fun args w => enters_of Try.func53 (by kernel_rfl) rfl args w⟩
  | 16, _, _ => exact ⟨_, _, _, rfl, fun args w => enters_of Try.func54 (by kernel_rfl) rfl args w⟩
  | 17, _, _ => exact ⟨_, _, _, rfl, fun args w => enters_of Try.func55 (by kernel_rfl) rfl args w⟩
  | n + 18, _, h => exact absurd h (by omega)
section
variable {F : Nat → Prop} {w : World} {p : Nat} {code : List I3} {st : List Prt}
def DoPost (F : Nat → Prop) (w : World) (p : Nat) (r : Int) (s : St) (e : Ending) (w' : World) : Prop := e = .returned (.int .i64 r) ∧ BldS F w' p s.1 s.2 ∧ Kept F w w'
theorem do_st (S : BldS F w p code st) (hF : ∀ r, w.heap.size ≤ r → F r) (hW : Wf (code, st)) (hst : st.length ≤ 32) (n : Int) (h13 : n = 13 → st = []) (hok : ansS n (code, st) = 0 → n ≠ 5 ∧ n ≠ 16) :
    Calls Try.prog 13 #[.pointer (some ⟨p, 0, none⟩), .int .i64 n] w (DoPost F w p (ansS n (code, st)) (doS n (code, st))) := by
  obtain ⟨vc, vp, ps, B, hm⟩ := S
  have hrev : (ps.map (·.1)).reverse = st := by rw [hm, List.reverse_reverse]
  have hpl : ps.length = st.length := by have := congrArg List.length hm; simpa using this
  have same : ∀ (r : Int), r ≠ 0 → ansS n (code, st) = r → (Calls Try.prog 13 #[.pointer (some ⟨p, 0, none⟩), .int .i64 n] w fun e w' => e = .returned (.int .i64 r) ∧ (∃ vc' vp', Bld F w' p vc' vp' code ps) ∧ Kept F w w') →
      Calls Try.prog 13 #[.pointer (some ⟨p, 0, none⟩), .int .i64 n] w (DoPost F w p (ansS n (code, st)) (doS n (code, st))) := fun r hr ha h => h.mono fun e w' ⟨he, ⟨vc', vp', hb⟩, hk⟩ => by
    refine ⟨by rw [ha]; exact he, ?_, hk⟩
    rw [doS, if_neg (by rw [ha]; exact hr)]
    exact ⟨vc', vp', ps, hb, hm⟩
  by_cases hn : 1 ≤ n ∧ n ≤ 17
  · obtain ⟨m, rfl⟩ := Int.eq_ofNat_of_zero_le (show 0 ≤ n by omega)
    have h1 : 1 ≤ m := by omega
    have h2 : m ≤ 17 := by omega
    have e0 : ansS (m : Int) (code, st) = if !fitsS st (asksOf m) || ((m : Int) == 13 && !hasLoop st) then -22 else if (laysOf m != 0 && decide (499 ≤ code.length)) || (decide (0 < moreOf m) && decide (32 ≤ st.length)) then -8 else 0 := by
      rw [ansS, if_pos hn]; rfl
    cases hfit : fitsS st (asksOf m) with
    | false => exact same (-22) (by decide) (by rw [e0, hfit]; rfl) (do_ctrl B (by omega) m h1 h2 (by rw [hrev]; exact hfit))
    | true =>
      by_cases hm13 : m = 13
      · subst hm13
        obtain rfl := h13 rfl
        obtain rfl : ps = [] := List.length_eq_zero_iff.1 (by simpa using hpl)
        exact same (-22) (by decide) (by rw [e0, hfit]; rfl) (do_leave0 B)
      · have hne : ((m : Int) == 13) = false := by simp; omega
        rw [hfit, hne] at e0
        by_cases hl : laysOf m = 0
        · by_cases hmo : 0 < moreOf m ∧ 32 ≤ st.length
          · exact same (-8) (by decide) (by rw [e0]; simp [hl, hmo]) (do_room2 B (by omega) m h1 h2 (by rw [hrev]; exact hfit) hm13 hl hmo.1 (by omega))
          · have hans : ansS (m : Int) (code, st) = 0 := by
              rw [e0]; simp [hl]; omega
            have hq := hok hans
            have hq : m ≠ 5 ∧ m ≠ 16 := by omega
            have hroom : moreOf m = 0 ∨ ps.length < 32 := by
              rcases more01 m h2 with h | h
              · exact .inl h
              · exact .inr (by omega)
            rw [hans, doS, if_pos hans]
            obtain ⟨k, c1, c2, hf, hent⟩ := fn_ent p w.heap.size m h1 h2
            refine do_call0 B (by omega) m h1 h2 (by rw [hrev]; exact hfit) hm13 hl hroom k c1 c2 hf hent (fun W' => BldS F W' p (actS m code.length (laidS m code, st)).1 (actS m code.length (laidS m code, st)).2) fun W vc' B' hbx K => ?_
            obtain ⟨k', c1', c2', hf', _, hc⟩ := does_ok (st := st) m h1 h2 hq.1 hm13 hq.2 B' hm hst hfit hW w.heap.size hbx (grown_hF hF K)
            rw [hf] at hf'
            cases hf'
            exact hc
        · by_cases hlen : 499 ≤ code.length
          · exact same (-8) (by decide) (by rw [e0]; simp [hl, hlen]) (do_room1 B (by omega) m h1 h2 (by rw [hrev]; exact hfit) hm13 hl hlen)
          by_cases hmo : 0 < moreOf m ∧ 32 ≤ st.length
          · exact same (-8) (by decide) (by rw [e0]; simp [hmo]) (do_room3 B (by omega) m h1 h2 (by rw [hrev]; exact hfit) hm13 hl (by omega) hmo.1 (by omega))
          · have hans : ansS (m : Int) (code, st) = 0 := by
              rw [e0]; simp; omega
            have hq := hok hans
            have hq : m ≠ 5 ∧ m ≠ 16 := by omega
            have hroom : moreOf m = 0 ∨ ps.length < 32 := by
              rcases more01 m h2 with h | h
              · exact .inl h
              · exact .inr (by omega)
            rw [hans, doS, if_pos hans]
            obtain ⟨k, c1, c2, hf, hent⟩ := fn_ent p w.heap.size m h1 h2
            refine do_call1 B (by omega) m h1 h2 (by rw [hrev]; exact hfit) hm13 hF hl (by omega) hroom k c1 c2 hf hent (fun W' => BldS F W' p (actS m code.length (laidS m code, st)).1 (actS m code.length (laidS m code, st)).2) fun W vc' B' hbx K => ?_
            obtain ⟨k', c1', c2', hf', _, hc⟩ := does_ok (st := st) m h1 h2 hq.1 hm13 hq.2 B' hm hst hfit hW w.heap.size hbx (grown_hF hF K)
            rw [hf] at hf'
            cases hf'
            exact hc
  · exact same 1 (by decide) (by rw [ansS, if_neg hn]) ((do_no B n (by omega)).mono fun e w' ⟨he, hb, hk⟩ => ⟨he, ⟨_, _, hb⟩, hk⟩)
end
end Go.Proofs.Ytdpoobkfhmmbjaa
