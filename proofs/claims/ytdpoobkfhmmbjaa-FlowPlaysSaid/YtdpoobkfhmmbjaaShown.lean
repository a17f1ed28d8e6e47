/- The walk of rhytonlaw11's shown. -/
import Derived.Test.YtdpoobkfhmmbjaaDoS
import Derived.Test.YtdpoobkfhmmbjaaWf
import Derived.Test.YtdpoobkfhmmbjaaEnd
import Derived.Test.YtdpoobkfhmmbjaaText
namespace Go.Proofs.Ytdpoobkfhmmbjaa
open Go.RowKit
section
variable {F G : Nat → Prop} {w w' : World} {p : Nat} {code : List I3} {st : List Prt}
theorem new_st (F : Nat → Prop) (w : World) (hF : ∀ r, w.heap.size ≤ r → F r) : Calls Try.prog 12 #[] w fun e w' => ∃ p, e = .returned (.pointer (some ⟨p, 0, none⟩)) ∧ w.heap.size ≤ p ∧ BldS F w' p [] [] ∧ Kept F w w' :=
  (new_any F w hF).mono fun _e _w' ⟨p, he, hp, ⟨vc, vp, ps, hb, hm⟩, hk⟩ => ⟨p, he, hp, ⟨vc, vp, ps, hb, hm⟩, hk⟩
theorem put_st (S : BldS F w p code st) (hF : ∀ r, w.heap.size ≤ r → F r) (x : I3) (h : code.length < 499) : Calls Try.prog 14 #[.pointer (some ⟨p, 0, none⟩), .agg #[.int .u8 x.1, .int .i64 x.2.1, .int .i64 x.2.2]] w (DoPost F w p 0 (code ++ [x], st)) := by
  obtain ⟨vc, vp, ps, B, hm⟩ := S
  exact (put_room B hF x h).mono fun e w' ⟨he, ⟨vc', hb⟩, hk⟩ => ⟨he, ⟨_, _, _, hb, hm⟩, hk⟩
theorem put_st_full (S : BldS F w p code st) (x : I3) (h : 499 ≤ code.length) : Calls Try.prog 14 #[.pointer (some ⟨p, 0, none⟩), .agg #[.int .u8 x.1, .int .i64 x.2.1, .int .i64 x.2.2]] w (DoPost F w p (-8) (code, st)) := by
  obtain ⟨vc, vp, ps, B, hm⟩ := S
  exact (put_full B x h).mono fun e w' ⟨he, hb, hk⟩ => ⟨he, ⟨_, _, _, hb, hm⟩, hk⟩
theorem open_st (S : BldS F w p code st) : Calls Try.prog 19 #[.pointer (some ⟨p, 0, none⟩)] w fun e w' => e = .returned (.int .i64 (st.length : Int)) ∧ w = w' := by
  obtain ⟨vc, vp, ps, B, hm⟩ := S
  have : ps.length = st.length := by have := congrArg List.length hm; simpa using this
  rw [← this]
  exact open_any B
theorem len_st (S : BldS F w p code st) : Calls Try.prog 23 #[.pointer (some ⟨p, 0, none⟩)] w fun e w' => e = .returned (.int .i64 (code.length : Int)) ∧ w = w' := by
  obtain ⟨vc, vp, ps, B, hm⟩ := S
  exact len_any B
theorem end_st_open (S : BldS F w p code st) (h : 0 < st.length) (h2 : st.length < 99) : Calls Try.prog 15 #[.pointer (some ⟨p, 0, none⟩)] w fun e w' => e = .returned (.tuple #[.agg #[.slice none 0 0], .int .i64 (-22)]) ∧ BldS F w' p code st ∧ Kept F w w' := by
  obtain ⟨vc, vp, ps, B, hm⟩ := S
  have : ps.length = st.length := by have := congrArg List.length hm; simpa using this
  exact (end_open B (by omega) (by omega)).mono fun e w' ⟨he, hb, hk⟩ => ⟨he, ⟨_, _, _, hb, hm⟩, hk⟩
theorem end_st (S : BldS F w p code []) (hF : ∀ r, w.heap.size ≤ r → F r) (h : code.length < 600) : Calls Try.prog 15 #[.pointer (some ⟨p, 0, none⟩)] w fun e w' => ∃ g c, e = .returned (.tuple #[.agg #[.slice (some ⟨g, 0, none⟩) (code.length + 1) c], .int .i64 0]) ∧ w'.ownsRow 0 31 3 (.slice (some ⟨g, 0, none⟩) (code.length + 1) c) (code.length + 1) (codeV (code ++ [(15, 0, 0)])) ∧
      BldS (fun r => F r ∧ r ≠ g) w' p [] [] ∧ F g ∧ Kept F w w' := by
  obtain ⟨vc, vp, ps, B, hm⟩ := S
  obtain rfl : ps = [] := by
    have := congrArg List.length hm
    simpa using this
  refine (end_ok B hF h).mono fun e w' ⟨dv, he, hd, hb, hg, hk⟩ => ?_
  obtain ⟨g, c, rfl, _, _⟩ := hd.form (by omega)
  exact ⟨g, c, he, hd, ⟨_, _, _, hb.mono (fun r hr => ⟨hr.1, fun h => hr.2 (by rw [h]; rfl)⟩), rfl⟩, hg g rfl, hk⟩
theorem BldS.kept {S : Nat → Prop} (B : BldS F w p code st) (K : Kept S w w') (h : ∀ r, F r → ¬ S r) : BldS F w' p code st := by
  obtain ⟨vc, vp, ps, B, hm⟩ := B
  exact ⟨_, _, _, B.kept K h, hm⟩
theorem BldS.mono (B : BldS F w p code st) (h : ∀ r, F r → G r) : BldS G w p code st := by
  obtain ⟨vc, vp, ps, B, hm⟩ := B
  exact ⟨_, _, _, B.mono h, hm⟩
theorem BldS.tight (B : BldS F w p code st) : BldS (fun r => F r ∧ r < w.heap.size) w p code st := by
  obtain ⟨vc, vp, ps, B, hm⟩ := B
  exact ⟨_, _, _, B.tight, hm⟩
theorem BldS.alloc (B : BldS F w p code st) (o : Obj) : BldS F (w.alloc o) p code st := by
  obtain ⟨vc, vp, ps, B, hm⟩ := B
  exact ⟨_, _, _, B.alloc o, hm⟩
/-- Only new blocks have changed. -/
theorem Kept.new (K : Kept (fun r => w.heap.size ≤ r) w w') : Kept NB w w' := ⟨K.os, K.tape, K.output, K.size, fun r hr _ => K.block r hr (by omega)⟩
end
theorem shown_text : textN [(1, 0, 0), (4, 3, 0), (11, 0, 0), (15, 0, 0)] 4 = ⟨#[108, 105, 116, 32, 48, 32, 122, 101, 114, 111, 32, 51, 32, 100, 114, 111, 112, 32, 48, 32, 101, 120, 105, 116, 32, 48]⟩ := by decide +kernel
set_option maxRecDepth 100000 in
set_option maxHeartbeats 4000000 in
theorem shown_any (w : World) : Calls Try.prog 10 #[] w fun e w' => e = .returned (.bool true) ∧ Kept NB w w' := by
  have HN := Lib.hid (new_st (fun r => w.heap.size ≤ r) w (fun r h => h))
  go_enter Try.func10, Try.ntmps10
  go_wp2_with fail
  refine HN.out.mono ?_
  rintro e w1 ⟨pb, rfl, hpb, SB, KB⟩
  have HSB := Lib.hid SB
  have HKB := Lib.hid KB
  have HN2 := Lib.hid (new_st (fun r => w1.heap.size ≤ r) w1 (fun r h => h))
  have hs1 := KB.size
  clear SB KB
  go_wp2_with fail
  refine HN2.out.mono ?_
  rintro e w2 ⟨pc, rfl, hpc, SC, KC⟩
  -- b's blocks: what is new, but c's
  obtain ⟨F, hFd⟩ : ∃ F : Nat → Prop, F = fun r => w.heap.size ≤ r ∧ ¬ (w1.heap.size ≤ r ∧ r < w2.heap.size) := ⟨_, rfl⟩
  have hs2 := KC.size
  have SB2 : BldS F w2 pb [] [] := by
    subst hFd
    exact ((HSB.out.tight.kept KC (fun r hr h => by have := hr.2; omega)).mono (fun r hr => ⟨hr.1, by have := hr.2; omega⟩))
  have SC2 : BldS (fun r => w1.heap.size ≤ r ∧ r < w2.heap.size) w2 pc [] [] := SC.tight
  have hFn : ∀ r, w2.heap.size ≤ r → F r := fun r hr => by subst hFd; exact ⟨by omega, by omega⟩
  have hFc : ∀ r, w1.heap.size ≤ r ∧ r < w2.heap.size → ¬ F r := fun r hr h => by subst hFd; exact h.2 hr
  have hFw : ∀ r, F r → w.heap.size ≤ r := fun r h => by subst hFd; exact h.1
  have K2 : Kept (fun r => w.heap.size ≤ r) w w2 := HKB.out.trans (KC.mono (fun r hr => by omega))
  clear HSB HKB SC KC hFd hs2
  have HF := Lib.hid hFn
  have HP := Lib.hid (put_st SB2 hFn (1, 0, 0) (by decide))
  have HK2 := Lib.hid K2
  have HSC := Lib.hid SC2
  clear SB2 K2 SC2
  go_wp2_with fail
  refine HP.out.mono ?_
  rintro e w3 ⟨rfl, SB3, K3⟩
  have HK3 := Lib.hid K3
  have D1 := do_st SB3 (grown_hF hFn K3) (wf_put ([], []) wf_nil (by decide) _) (by decide) 1 (by decide) (by decide)
  rw [show ansS 1 (([] : List I3) ++ [(1, 0, 0)], []) = 0 from rfl, show doS 1 (([] : List I3) ++ [(1, 0, 0)], []) = ([(1, 0, 0), (4, 0, 0)], [⟨0, 1, []⟩]) from rfl] at D1
  have HD := Lib.hid D1
  clear SB3 K3 D1
  go_wp2_with fail
  refine HD.out.mono ?_
  rintro e w4 ⟨rfl, SB4, K4⟩
  have HK4 := Lib.hid (HK3.out.trans K4)
  have HP4 := Lib.hid (put_st SB4 (grown_hF HF.out HK4.out) (11, 0, 0) (by decide))
  clear SB4 K4
  go_wp2_with fail
  refine HP4.out.mono ?_
  rintro e w5 ⟨rfl, SB5, K5⟩
  have HK5 := Lib.hid (HK4.out.trans K5)
  have W1 : Wf ([(1, 0, 0), (4, 0, 0)], [⟨0, 1, []⟩]) := wf_do 1 ([(1, 0, 0)], []) (wf_put ([], []) wf_nil (by decide) (1, 0, 0))
  have D5 : Calls Try.prog 13 #[.pointer (some ⟨pb, 0, none⟩), .int .i64 3] w5 (DoPost F w5 pb 0 ([(1, 0, 0), (4, 3, 0), (11, 0, 0)], [])) := do_st SB5 (grown_hF HF.out HK5.out) (wf_put _ W1 (by decide) (11, 0, 0)) (by decide) 3 (by decide) (by decide)
  have HD5 := Lib.hid D5
  clear SB5 K5 W1 D5
  go_wp2_with fail
  refine HD5.out.mono ?_
  rintro e w6 ⟨rfl, SB6, K6⟩
  have HK6 := Lib.hid (HK5.out.trans K6)
  have HE := Lib.hid (end_st SB6 (grown_hF HF.out HK6.out) (by decide))
  clear SB6 K6
  go_wp2_with fail
  refine HE.out.mono ?_
  rintro e w7 ⟨g, c, rfl, hrow, SB7, hg, K7⟩
  have HK7 := Lib.hid ((HK6.out.trans K7).alloc (.cells #[.slice (some ⟨g, 0, none⟩) 4 c] 34))
  have HT := Lib.hid (text_any [(1, 0, 0), (4, 3, 0), (11, 0, 0), (15, 0, 0)] (by intro x hx; simp at hx; rcases hx with rfl | rfl | rfl | rfl <;> (unfold Tellable; decide)) (.slice (some ⟨g, 0, none⟩) 4 c) (w7.alloc (.cells #[.slice (some ⟨g, 0, none⟩) 4 c] 34)) (by decide) (owns_kept hrow ((Kept.refl (fun _ => False) w7).alloc _) (fun _ _ h => h)))
  rw [show ([(1, 0, 0), (4, 3, 0), (11, 0, 0), (15, 0, 0)] : List I3).length = 4 from rfl, shown_text] at HT
  clear hrow SB7 hg K7
  go_wp2_with fail
  refine HT.out.mono ?_
  rintro e w8 ⟨rfl, K8⟩
  have HK8 := Lib.hid (HK7.out.trans (K8.mono (T := F) (fun _ h => h.elim)))
  have SC8 := HSC.out.kept HK8.out hFc
  have hFC : ∀ r, w8.heap.size ≤ r → (fun r => w.heap.size ≤ r ∧ ¬ F r ∨ w8.heap.size ≤ r) r := fun r hr => .inr hr
  have D8 : Calls Try.prog 13 #[.pointer (some ⟨pc, 0, none⟩), .int .i64 3] w8 (DoPost (fun r => w.heap.size ≤ r ∧ ¬ F r ∨ w8.heap.size ≤ r) w8 pc (-22) ([], [])) := do_st (SC8.mono (fun r hr => .inl ⟨by omega, hFc r hr⟩)) hFC wf_nil (by decide) 3 (by decide) (by decide)
  have HD8 := Lib.hid D8
  clear SC8 D8 K8
  go_wp2_with fail
  refine HD8.out.mono ?_
  rintro e w9 ⟨rfl, _, K9⟩
  have HK9 := Lib.hid ((HK2.out.trans (HK8.out.mono hFw)).trans (K9.mono (fun r hr => by
    rcases hr with hr | hr
    · exact hr.1
    · have := HK8.out.size; have := HK2.out.size; omega)))
  clear K9
  go_wp2_with fail
  all_goals (first | go_ret | skip)
  all_goals exact ⟨rfl, HK9.out.new⟩
end Go.Proofs.Ytdpoobkfhmmbjaa
