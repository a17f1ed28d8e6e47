/- Do, whatever is open: on the plain state. -/
import Derived.Test.YtdpoobkfhmmbjaaDoS
import Derived.Test.YtdpoobkfhmmbjaaDoLeave
import Derived.Test.YtdpoobkfhmmbjaaWf
namespace Go.Proofs.Ytdpoobkfhmmbjaa
open Go.RowKit Go.Shelf
section
variable {F : Nat → Prop} {w : World} {p : Nat} {vc vp : Value} {code : List I3} {ps : List (Prt × Value)} {st : List Prt}
theorem does_any (n : Nat) (h1 : 1 ≤ n) (h2 : n ≤ 17) (h13 : n ≠ 13) (B : Bld F w p vc vp (laidS n code) ps) (hm : ps.map (·.1) = st.reverse) (hst : st.length ≤ 32) (hfit : fitsS st (asksOf n) = true) (hW : Wf (code, st)) (bx : Nat)
    (hbx : w.heap[bx]? = some (.cells #[.pointer (some ⟨p, 0, none⟩)] 24 (0, 0))) (hF : ∀ r, w.heap.size ≤ r → F r) : Does F w p bx n code st := by
  have hpl : ps.length ≤ 32 := by
    have := congrArg List.length hm
    simp at this
    omega
  have hlen : code.length ≤ 499 := hW.len
  have hll := laid_length n code
  have hW2 := hW.parts
  dsimp only at hW2
  by_cases h5 : n = 5
  · subst h5
    obtain ⟨q, r, rfl, hq⟩ := fits1 hfit
    obtain ⟨ps', gv, rfl, hm'⟩ := map_snoc hm
    have hpl' : ps'.length < 90 := by simp at hpl; omega
    exact ⟨45, #[.pointer (some ⟨p, 0, none⟩)], #[], rfl, fun args w => enters_of Try.func45 (by kernel_rfl) rfl args w, (while_any B hF hpl' _).mono fun e w' ⟨he, ⟨vp', hb⟩, hk⟩ => ⟨he, ⟨_, _, _, hb, by simp [hm', actS]⟩, hk⟩⟩
  by_cases h16 : n = 16
  · subst h16
    obtain ⟨q, q2, r, rfl, hq, hq2⟩ := fits2 hfit
    obtain ⟨ps', gv, rfl, hm'⟩ := map_snoc hm
    obtain ⟨ps2, gv2, rfl, hm2⟩ := map_snoc hm'
    have hpl' : ps2.length < 90 := by simp at hpl; omega
    have hqw := hW2 q (by simp)
    have hqw2 := hW2 q2 (by simp)
    have hlt := hqw.2.2.1 (.inr hq)
    have hgl := hqw2.2.2.2.2
    exact ⟨54, #[.pointer (some ⟨p, 0, none⟩)], #[], rfl, fun args w => enters_of Try.func54 (by kernel_rfl) rfl args w, (endOf_any B hF (by omega) hpl' (by dsimp only; omega) ⟨hqw.1, by dsimp only; omega⟩ _).mono fun e w' ⟨he, ⟨vp', gv', hb⟩, hk⟩ => ⟨he, ⟨_, _, _, hb, by simp [hm2, actS]⟩, hk⟩⟩
  · exact does_ok n h1 h2 h5 h13 h16 B hm hst hfit hW bx hbx hF
theorem do_not13 (S : BldS F w p code st) (hF : ∀ r, w.heap.size ≤ r → F r) (hW : Wf (code, st)) (hst : st.length ≤ 32) (n : Int) (h13 : n ≠ 13) :
    Calls Try.prog 13 #[.pointer (some ⟨p, 0, none⟩), .int .i64 n] w (DoPost F w p (ansS n (code, st)) (doS n (code, st))) := by
  obtain ⟨vc, vp, ps, B, hm⟩ := S
  have hrev : (ps.map (·.1)).reverse = st := by rw [hm, List.reverse_reverse]
  have hpl : ps.length = st.length := by have := congrArg List.length hm; simpa using this
  have same : ∀ (r : Int), r ≠ 0 → ansS n (code, st) = r → (Calls Try.prog 13 #[.pointer (some ⟨p, 0, none⟩), .int .i64 n] w fun e w' => e = .returned (.int .i64 r) ∧ (∃ vc' vp', Bld F w' p vc' vp' code ps) ∧ Kept F w w') →
      Calls Try.prog 13 #[.pointer (some ⟨p, 0, none⟩), .int .i64 n] w (DoPost F w p (ansS n (code, st)) (doS n (code, st))) := fun r hr ha h => h.mono fun e w' ⟨he, ⟨vc', vp', hb⟩, hk⟩ => by
    refine ⟨by rw [ha]; exact he, ?_, hk⟩
    rw [doS, if_neg (by rw [ha]; exact hr)]
    exact ⟨vc', vp', ps, hb, hm⟩
  by_cases hn : 1 ≤ n ∧ n ≤ 17
  · obtain ⟨m, rfl⟩ := Int.eq_ofNat_of_zero_le (show 0 ≤ n by omega)
    have h1 : 1 ≤ m := by omega
    have h2 : m ≤ 17 := by omega
    have e0 : ansS (m : Int) (code, st) = if !fitsS st (asksOf m) || ((m : Int) == 13 && !hasLoop st) then -22 else if (laysOf m != 0 && decide (499 ≤ code.length)) || (decide (0 < moreOf m) && decide (32 ≤ st.length)) then -8 else 0 := by
      rw [ansS, if_pos hn]; rfl
    cases hfit : fitsS st (asksOf m) with
    | false => exact same (-22) (by decide) (by rw [e0, hfit]; rfl) (do_ctrl B (by omega) m h1 h2 (by rw [hrev]; exact hfit))
    | true =>
      have hm13 : m ≠ 13 := by omega
      have hne : ((m : Int) == 13) = false := by simp; omega
      rw [hfit, hne] at e0
      by_cases hl : laysOf m = 0
      · by_cases hmo : 0 < moreOf m ∧ 32 ≤ st.length
        · exact same (-8) (by decide) (by rw [e0]; simp [hl, hmo]) (do_room2 B (by omega) m h1 h2 (by rw [hrev]; exact hfit) hm13 hl hmo.1 (by omega))
        · have hans : ansS (m : Int) (code, st) = 0 := by
            rw [e0]; simp [hl]; omega
          have hroom : moreOf m = 0 ∨ ps.length < 32 := by
            rcases more01 m h2 with h | h
            · exact .inl h
            · exact .inr (by omega)
          rw [hans, doS, if_pos hans]
          obtain ⟨k, c1, c2, hf, hent⟩ := fn_ent p w.heap.size m h1 h2
          refine do_call0 B (by omega) m h1 h2 (by rw [hrev]; exact hfit) hm13 hl hroom k c1 c2 hf hent (fun W' => BldS F W' p (actS m code.length (laidS m code, st)).1 (actS m code.length (laidS m code, st)).2) fun W vc' B' hbx K => ?_
          obtain ⟨k', c1', c2', hf', _, hc⟩ := does_any (st := st) m h1 h2 hm13 B' hm hst hfit hW w.heap.size hbx (grown_hF hF K)
          rw [hf] at hf'
          cases hf'
          exact hc
      · by_cases hlen : 499 ≤ code.length
        · exact same (-8) (by decide) (by rw [e0]; simp [hl, hlen]) (do_room1 B (by omega) m h1 h2 (by rw [hrev]; exact hfit) hm13 hl hlen)
        by_cases hmo : 0 < moreOf m ∧ 32 ≤ st.length
        · exact same (-8) (by decide) (by rw [e0]; simp [hmo]) (do_room3 B (by omega) m h1 h2 (by rw [hrev]; exact hfit) hm13 hl (by omega) hmo.1 (by omega))
        · have hans : ansS (m : Int) (code, st) = 0 := by
            rw [e0]; simp; omega
          have hroom : moreOf m = 0 ∨ ps.length < 32 := by
            rcases more01 m h2 with h | h
            · exact .inl h
            · exact .inr (by omega)
          rw [hans, doS, if_pos hans]
          obtain ⟨k, c1, c2, hf, hent⟩ := fn_ent p w.heap.size m h1 h2
          refine do_call1 B (by omega) m h1 h2 (by rw [hrev]; exact hfit) hm13 hF hl (by omega) hroom k c1 c2 hf hent (fun W' => BldS F W' p (actS m code.length (laidS m code, st)).1 (actS m code.length (laidS m code, st)).2) fun W vc' B' hbx K => ?_
          obtain ⟨k', c1', c2', hf', _, hc⟩ := does_any (st := st) m h1 h2 hm13 B' hm hst hfit hW w.heap.size hbx (grown_hF hF K)
          rw [hf] at hf'
          cases hf'
          exact hc
  · exact same 1 (by decide) (by rw [ansS, if_neg hn]) ((do_no B n (by omega)).mono fun e w' ⟨he, hb, hk⟩ => ⟨he, ⟨_, _, hb⟩, hk⟩)
theorem has_split (st : List Prt) (h : hasLoop st = true) : ∃ s1 q s2, st = s1 ++ q :: s2 ∧ q.kind = 2 ∧ (∀ x ∈ s1, x.kind ≠ 2) ∧ ∀ n, addGap n st = s1 ++ ⟨q.kind, q.at_, q.gaps ++ [n]⟩ :: s2 := by
  induction st with
  | nil => simp [hasLoop] at h
  | cons x st ih =>
    by_cases hx : x.kind = 2
    · exact ⟨[], x, st, rfl, hx, by simp, fun n => by simp [addGap, hx]⟩
    · have hs : hasLoop st = true := by simpa [hasLoop, hx] using h
      obtain ⟨s1, q, s2, rfl, h1, h2, h3⟩ := ih hs
      exact ⟨x :: s1, q, s2, rfl, h1, by
        intro y hy
        rcases List.mem_cons.1 hy with rfl | hy
        · exact hx
        · exact h2 y hy, fun n => by rw [addGap, if_neg hx, h3]; rfl⟩
theorem do_13 (S : BldS F w p code st) (hF : ∀ r, w.heap.size ≤ r → F r) (hW : Wf (code, st)) (hst : st.length ≤ 32) :
    Calls Try.prog 13 #[.pointer (some ⟨p, 0, none⟩), .int .i64 13] w (DoPost F w p (ansS 13 (code, st)) (doS 13 (code, st))) := by
  obtain ⟨vc, vp, ps, B, hm⟩ := S
  have hpl : ps.length = st.length := by have := congrArg List.length hm; simpa using this
  have e0 : ansS 13 (code, st) = if !hasLoop st then -22 else if 499 ≤ code.length then -8 else 0 := by
    rw [ansS, if_pos (by decide), show (13 : Int).toNat = 13 from rfl, show asksOf 13 = [] from rfl, fits_nil]
    simp [laysOf, moreOf]
  have same : ∀ (r : Int), r ≠ 0 → ansS 13 (code, st) = r → (Calls Try.prog 13 #[.pointer (some ⟨p, 0, none⟩), .int .i64 13] w fun e w' => e = .returned (.int .i64 r) ∧ (∃ vc' vp', Bld F w' p vc' vp' code ps) ∧ Kept F w w') →
      Calls Try.prog 13 #[.pointer (some ⟨p, 0, none⟩), .int .i64 13] w (DoPost F w p (ansS 13 (code, st)) (doS 13 (code, st))) := fun r hr ha h => h.mono fun e w' ⟨he, ⟨vc', vp', hb⟩, hk⟩ => by
    refine ⟨by rw [ha]; exact he, ?_, hk⟩
    rw [doS, if_neg (by rw [ha]; exact hr)]
    exact ⟨vc', vp', ps, hb, hm⟩
  cases hh : hasLoop st with
  | false =>
    have hno : ∀ y ∈ ps, y.1.kind ≠ 2 := fun y hy h2 => by
      have hy2 : y.1 ∈ st := by
        have : y.1 ∈ ps.map (·.1) := List.mem_map.2 ⟨y, hy, rfl⟩
        rw [hm] at this
        simpa using this
      have : hasLoop st = true := by
        rw [hasLoop, List.any_eq_true]
        exact ⟨y.1, hy2, by simpa using h2⟩
      rw [hh] at this
      cases this
    exact same (-22) (by decide) (by rw [e0, hh]; rfl) (do13_ctrl B (by omega) (-1) (by decide) (fun F' W B' => inner_none B' (by omega) hno))
  | true =>
    obtain ⟨s1, q, s2, rfl, hq, h1, hadd⟩ := has_split st hh
    rw [List.reverse_append, List.reverse_cons, List.append_assoc] at hm
    obtain ⟨l1, l2', rfl, hl1, hl2⟩ := List.map_eq_append_iff.1 hm
    obtain ⟨x, l2, rfl, hx, hl3⟩ : ∃ x l2, l2' = x :: l2 ∧ x.1 = q ∧ l2.map (·.1) = s1.reverse := by
      cases l2' with
      | nil => simp at hl2
      | cons x l2 =>
        simp at hl2
        exact ⟨x, l2, rfl, hl2.1, by simpa using hl2.2⟩
    obtain ⟨x1, gv⟩ := x
    dsimp only at hx
    subst hx
    have h2 : ∀ y ∈ l2, y.1.kind ≠ 2 := fun y hy => by
      have : y.1 ∈ l2.map (·.1) := List.mem_map.2 ⟨y, hy, rfl⟩
      rw [hl3] at this
      exact h1 _ (by simpa using this)
    have HI : ∀ (F' : Nat → Prop) W, Bld F' W p vc vp code (l1 ++ (x1, gv) :: l2) → Calls Try.prog 28 #[.pointer (some ⟨p, 0, none⟩)] W fun e W' => e = .returned (.int .i64 (l1.length : Int)) ∧ Below W.heap.size W W' := fun F' W B' => inner_at B' (by omega) hq h2
    by_cases h499 : 499 ≤ code.length
    · exact same (-8) (by decide) (by rw [e0, hh]; simp [h499]) (do13_room B (by omega) _ (by omega) h499 HI)
    · have hans : ansS 13 (code, s1 ++ x1 :: s2) = 0 := by rw [e0, hh]; simp [h499]
      rw [hans, doS, if_pos hans]
      have hgl := (hW.parts x1 (by simp)).2.2.2.2
      have hlc : code.length ≤ 499 := hW.len
      dsimp only at hgl
      refine do13_call B (by omega) _ (by omega) hF (by omega) HI (fun W' => BldS F W' p (actS 13 code.length (laidS 13 code, s1 ++ x1 :: s2)).1 (actS 13 code.length (laidS 13 code, s1 ++ x1 :: s2)).2) fun W vc' B' K => ?_
      refine (leave_any B' (grown_hF hF K) (by omega) hq h2 (by dsimp only; omega) _).mono fun e w' ⟨he, ⟨vp', gv', hb⟩, hk⟩ => ⟨he, ?_, hk⟩
      have e1 : actS 13 (code.length : Int) (laidS 13 code, s1 ++ x1 :: s2) = (code ++ [(9, 0, 0)], s1 ++ ⟨x1.kind, x1.at_, x1.gaps ++ [(code.length : Int)]⟩ :: s2) := by
        show (laidS 13 code, addGap _ _) = _
        rw [hadd]
        rfl
      rw [e1]
      exact ⟨_, _, _, hb, by simp [hl1, hl3]⟩
theorem do_all (S : BldS F w p code st) (hF : ∀ r, w.heap.size ≤ r → F r) (hW : Wf (code, st)) (hst : st.length ≤ 32) (n : Int) :
    Calls Try.prog 13 #[.pointer (some ⟨p, 0, none⟩), .int .i64 n] w (DoPost F w p (ansS n (code, st)) (doS n (code, st))) := by
  by_cases h : n = 13
  · subst h; exact do_13 S hF hW hst
  · exact do_not13 S hF hW hst n h
/-- there are 32 parts at most -/
theorem do_deep (n : Int) (s : St) (h : s.2.length ≤ 32) : (doS n s).2.length ≤ 32 := by
  obtain ⟨c, st⟩ := s
  unfold doS
  split
  · rename_i hans
    obtain ⟨m, rfl, h1, h2, hf, hl, h13, hmo⟩ := ans_ok hans
    rw [show ((m : Int)).toNat = m from rfl]
    dsimp only at hf h hmo h13
    match m, h1, h2 with
    | 1, _, _ | 4, _, _ | 9, _, _ | 10, _, _ | 14, _, _ | 15, _, _ => exact hmo (by decide)
    | 2, _, _ => obtain ⟨q, r, rfl, _⟩ := fits1 hf; exact h
    | 3, _, _ | 7, _, _ | 8, _, _ | 11, _, _ | 12, _, _ | 17, _, _ => obtain ⟨q, r, rfl, _⟩ := fits1 hf; exact Nat.le_of_succ_le h
    | 5, _, _ => obtain ⟨q, r, rfl, _⟩ := fits1 hf; exact hmo (by decide)
    | 6, _, _ => obtain ⟨q, q2, r, rfl, _⟩ := fits2 hf; exact Nat.le_of_succ_le (Nat.le_of_succ_le h)
    | 16, _, _ => obtain ⟨q, q2, r, rfl, _⟩ := fits2 hf; exact Nat.le_of_succ_le h
    | 13, _, _ =>
      obtain ⟨s1, q, s2, rfl, _, _, hadd⟩ := has_split st (h13 rfl)
      show (addGap _ _).length ≤ 32
      rw [hadd]
      simpa using h
    | m + 18, _, h => exact absurd h (by omega)
  · exact h
end
end Go.Proofs.Ytdpoobkfhmmbjaa
