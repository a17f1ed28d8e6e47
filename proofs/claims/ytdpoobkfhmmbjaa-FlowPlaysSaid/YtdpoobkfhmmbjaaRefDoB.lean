/- The walks of the reference's Do, a theorem a word, each where the word is not refused. (Printed by gen_refdo.py.) -/
import Derived.Test.YtdpoobkfhmmbjaaRefDoA
import Derived.StillTailTactics
namespace Go.Proofs.Ytdpoobkfhmmbjaa
open Go.RowKit
open Go.MapKept (heap_alloc)
set_option maxRecDepth 100000 in
set_option maxHeartbeats 4000000 in
theorem rdo_9 {F : Nat → Prop} {w : World} {p : Nat} {vc vp : Value} {code : List I3} (ps : List (Prt × Value)) (B : RBld F w p vc vp code ps) (hF : ∀ r, w.heap.size ≤ r → F r) (hlen : code.length < 499) (hpl : ps.length < 32) (hask : asksB 9 (ps.map (·.1)).reverse = true)  :
    Calls Try.prog 22 #[.pointer (some ⟨p, 0, none⟩), .int .i64 9] w fun e w' => e = .returned (.int .i64 0) ∧ (∃ vc' vp' ps', RBld F w' p vc' vp' (code ++ [(5, 0, 0)]) ps' ∧ ps'.map (·.1) = ps.map (·.1) ++ [(⟨2, (code.length : Int) + 1, []⟩ : Prt)]) ∧ Kept (fun r => r = p) w w' := by
  have HAS := Lib.hid (show Calls Try.prog 33 #[.pointer (some ⟨p, 0, none⟩), .int .i64 9] w fun e w' => e = .returned (.bool true) ∧ w = w' by have := asks_any B.b (by omega) 9 (by decide) (by decide); rwa [hask] at this)
  have HLA := Lib.hid (show Calls Try.prog 34 #[.int .i64 9] w fun e w' => e = .returned (.int .u8 5) ∧ w = w' from lays_any 9 (by decide) (by decide) w)
  have HOP := Lib.hid (show Calls Try.prog 35 #[.int .i64 9] w fun e w' => e = .returned (.bool true) ∧ w = w' from opens_any 9 (by decide) (by decide) w)
  obtain ⟨a0, c0, hv0, h01, h02, _⟩ := owns_slice B.b.code
  obtain ⟨a1, c1, hv1, h11, h12, _⟩ := owns_slice B.b.parts
  have d0 : w.cell? ⟨p, 0, none⟩ = some (.slice a0 code.length c0) := by rw [cell_block B.b.own, hv0]; rfl
  have d1 : w.cell? ⟨p, 1, none⟩ = some (.slice a1 ps.length c1) := by rw [cell_block B.b.own, hv1]; rfl
  obtain ⟨np, hnp⟩ : ∃ np, np = ps.length := ⟨_, rfl⟩
  rw [← hnp] at d1 h11 hpl
  have HNP := Lib.hid hnp
  have HPS := Lib.hid (show ps.length < 98 by omega)
  have HB0 := Lib.hid B
  have HF := Lib.hid hF
  clear B hF hnp hv0 hv1 hask 
  go_enter Try.func22, Try.ntmps22
  try simp only [List.append]
  go_wp2_with fail
  with_reducible refine HAS.out.mono ?_
  rintro e v0 ⟨rfl, rfl⟩
  go_wp2_with fail
  with_reducible refine HLA.out.mono ?_
  rintro e v0 ⟨rfl, rfl⟩
  go_wp2_with fail
  with_reducible refine HOP.out.mono ?_
  rintro e v0 ⟨rfl, rfl⟩
  go_wp2_with fail
  clear d0 d1 h01 h11
  have HK0 := Lib.hid (Kept.refl (fun r => r = p) w)
  have HC := Lib.hid (rput_room HB0.out HF.out (5, 0, 0) (by omega))
  unfold insC at HC
  refine HC.out.mono ?_
  rintro e v1 ⟨rfl, ⟨vc1, T, TN⟩, K⟩
  have HB1 := Lib.hid T
  have HK1 := Lib.hid K
  have HTN := Lib.hid TN
  clear T K HC TN
  go_wp2_with fail
  have HC := Lib.hid (rpush_any (HB1.out.young (Kept.refl NB v1)) (fun r hr => HF.out r (Nat.le_trans HK1.out.size (Nat.le_trans (Kept.refl NB v1).size hr))) 2 ((code.length : Int) + 1) [] (.slice none 0 0) (by have := HPS.out; (try simp); omega) own_nil (by simp [Value.ownBlock]))
  refine HC.out.mono ?_
  rintro e v2 ⟨rfl, ⟨vp2, T⟩, K⟩
  have K2 : Kept (fun r => r = p) v1 v2 := ((Kept.refl NB v1).mono (fun _ h => h.elim)).trans K
  have HB2 := Lib.hid T
  have HK2 := Lib.hid (HK1.out.trans K2)
  clear T K K2 HC
  go_wp2_with fail
  all_goals (first | go_ret | skip)
  all_goals exact ⟨rfl, ⟨_, _, _, HB2.out, by simp⟩, HK2.out⟩
set_option maxRecDepth 100000 in
set_option maxHeartbeats 4000000 in
theorem rdo_10 {F : Nat → Prop} {w : World} {p : Nat} {vc vp : Value} {code : List I3} (ps : List (Prt × Value)) (B : RBld F w p vc vp code ps) (hF : ∀ r, w.heap.size ≤ r → F r) (hlen : code.length < 499) (hpl : ps.length < 32) (hask : asksB 10 (ps.map (·.1)).reverse = true)  :
    Calls Try.prog 22 #[.pointer (some ⟨p, 0, none⟩), .int .i64 10] w fun e w' => e = .returned (.int .i64 0) ∧ (∃ vc' vp' ps', RBld F w' p vc' vp' (code ++ [(6, 0, 0)]) ps' ∧ ps'.map (·.1) = ps.map (·.1) ++ [(⟨2, (code.length : Int) + 1, [(code.length : Int)]⟩ : Prt)]) ∧ Kept (fun r => r = p) w w' := by
  have HAS := Lib.hid (show Calls Try.prog 33 #[.pointer (some ⟨p, 0, none⟩), .int .i64 10] w fun e w' => e = .returned (.bool true) ∧ w = w' by have := asks_any B.b (by omega) 10 (by decide) (by decide); rwa [hask] at this)
  have HLA := Lib.hid (show Calls Try.prog 34 #[.int .i64 10] w fun e w' => e = .returned (.int .u8 6) ∧ w = w' from lays_any 10 (by decide) (by decide) w)
  have HOP := Lib.hid (show Calls Try.prog 35 #[.int .i64 10] w fun e w' => e = .returned (.bool true) ∧ w = w' from opens_any 10 (by decide) (by decide) w)
  obtain ⟨a0, c0, hv0, h01, h02, _⟩ := owns_slice B.b.code
  obtain ⟨a1, c1, hv1, h11, h12, _⟩ := owns_slice B.b.parts
  have d0 : w.cell? ⟨p, 0, none⟩ = some (.slice a0 code.length c0) := by rw [cell_block B.b.own, hv0]; rfl
  have d1 : w.cell? ⟨p, 1, none⟩ = some (.slice a1 ps.length c1) := by rw [cell_block B.b.own, hv1]; rfl
  obtain ⟨np, hnp⟩ : ∃ np, np = ps.length := ⟨_, rfl⟩
  rw [← hnp] at d1 h11 hpl
  have HNP := Lib.hid hnp
  have HPS := Lib.hid (show ps.length < 98 by omega)
  have HB0 := Lib.hid B
  have HF := Lib.hid hF
  clear B hF hnp hv0 hv1 hask 
  go_enter Try.func22, Try.ntmps22
  try simp only [List.append]
  go_wp2_with fail
  with_reducible refine HAS.out.mono ?_
  rintro e v0 ⟨rfl, rfl⟩
  go_wp2_with fail
  with_reducible refine HLA.out.mono ?_
  rintro e v0 ⟨rfl, rfl⟩
  go_wp2_with fail
  with_reducible refine HOP.out.mono ?_
  rintro e v0 ⟨rfl, rfl⟩
  go_wp2_with fail
  clear d0 d1 h01 h11
  have HK0 := Lib.hid (Kept.refl (fun r => r = p) w)
  have HC := Lib.hid (rput_room HB0.out HF.out (6, 0, 0) (by omega))
  unfold insC at HC
  refine HC.out.mono ?_
  rintro e v1 ⟨rfl, ⟨vc1, T, TN⟩, K⟩
  have HB1 := Lib.hid T
  have HK1 := Lib.hid K
  have HTN := Lib.hid TN
  clear T K HC TN
  obtain ⟨u2, hu2⟩ : ∃ u2, v1.alloc (.cells #[.int .i64 (code.length : Int)] 3) = u2 := ⟨_, rfl⟩
  have KU : Kept NB v1 u2 := by rw [← hu2]; exact (Kept.refl _ _).alloc _
  have HUX2 := Lib.hid (show u2.heap[v1.heap.size]? = some (.cells #[.int .i64 (code.length : Int)] 3 (0, 0)) by rw [← hu2]; exact (heap_alloc v1 _).1)
  have HU2 := Lib.hid KU
  clear KU
  go_wp2_with fail
  have HC := Lib.hid (rpush_any (HB1.out.young HU2.out) (fun r hr => HF.out r (Nat.le_trans HK1.out.size (Nat.le_trans HU2.out.size hr))) 2 ((code.length : Int) + 1) [(code.length : Int)] (.slice (some ⟨v1.heap.size, 0, none⟩) 1 1) (by have := HPS.out; (try simp); omega) (own_int1 HUX2.out) (fun r hr => by simp [Value.ownBlock] at hr; subst hr; exact HF.out _ (HK1.out.size)))
  refine HC.out.mono ?_
  rintro e v2 ⟨rfl, ⟨vp2, T⟩, K⟩
  have K2 : Kept (fun r => r = p) v1 v2 := (HU2.out.mono (fun _ h => h.elim)).trans K
  have HB2 := Lib.hid T
  have HK2 := Lib.hid (HK1.out.trans K2)
  clear T K K2 HC
  go_wp2_with fail
  all_goals (first | go_ret | skip)
  all_goals exact ⟨rfl, ⟨_, _, _, HB2.out, by simp⟩, HK2.out⟩
set_option maxRecDepth 100000 in
set_option maxHeartbeats 4000000 in
theorem rdo_11 {F : Nat → Prop} {w : World} {p : Nat} {vc vp : Value} {code : List I3} (ps : List (Prt × Value)) (qk0 qa0 : Int) (qs0 : List Int) (gv0 : Value) (B : RBld F w p vc vp code (ps ++ [((⟨qk0, qa0, qs0⟩ : Prt), (gv0 : Value))])) (hF : ∀ r, w.heap.size ≤ r → F r) (hlen : code.length < 499) (hpl : (ps ++ [((⟨qk0, qa0, qs0⟩ : Prt), (gv0 : Value))]).length < 33) (hask : asksB 11 ((ps ++ [((⟨qk0, qa0, qs0⟩ : Prt), (gv0 : Value))]).map (·.1)).reverse = true) (hc0 : ∀ g ∈ qs0, 0 ≤ g ∧ g < code.length) :
    Calls Try.prog 22 #[.pointer (some ⟨p, 0, none⟩), .int .i64 11] w fun e w' => e = .returned (.int .i64 0) ∧ (∃ vc' vp' ps', RBld F w' p vc' vp' (closeG (setA (code ++ [(7, 0, 0)]) code.length qa0) qs0) ps' ∧ ps'.map (·.1) = ps.map (·.1)) ∧ Kept (fun r => r = p) w w' := by
  have HAS := Lib.hid (show Calls Try.prog 33 #[.pointer (some ⟨p, 0, none⟩), .int .i64 11] w fun e w' => e = .returned (.bool true) ∧ w = w' by have := asks_any B.b (by omega) 11 (by decide) (by decide); rwa [hask] at this)
  have HLA := Lib.hid (show Calls Try.prog 34 #[.int .i64 11] w fun e w' => e = .returned (.int .u8 7) ∧ w = w' from lays_any 11 (by decide) (by decide) w)
  have HOP := Lib.hid (show Calls Try.prog 35 #[.int .i64 11] w fun e w' => e = .returned (.bool false) ∧ w = w' from opens_any 11 (by decide) (by decide) w)
  obtain ⟨ga0, gc0, hgv0, _, hgc0, _⟩ := owns_slice (B.b.gaps ((⟨qk0, qa0, qs0⟩ : Prt), (gv0 : Value)) (by simp))
  dsimp only at hgv0
  subst hgv0
  obtain ⟨a0, c0, hv0, h01, h02, _⟩ := owns_slice B.b.code
  obtain ⟨a1, c1, hv1, h11, h12, _⟩ := owns_slice B.b.parts
  have d0 : w.cell? ⟨p, 0, none⟩ = some (.slice a0 code.length c0) := by rw [cell_block B.b.own, hv0]; rfl
  have d1 : w.cell? ⟨p, 1, none⟩ = some (.slice a1 (ps ++ [((⟨qk0, qa0, qs0⟩ : Prt), ((.slice ga0 qs0.length gc0) : Value))]).length c1) := by rw [cell_block B.b.own, hv1]; rfl
  obtain ⟨np, hnp⟩ : ∃ np, np = (ps ++ [((⟨qk0, qa0, qs0⟩ : Prt), ((.slice ga0 qs0.length gc0) : Value))]).length := ⟨_, rfl⟩
  rw [← hnp] at d1 h11 hpl
  have HNP := Lib.hid hnp
  have HPS := Lib.hid (show ps.length < 98 by simp at hnp; omega)
  have HB0 := Lib.hid B
  have HF := Lib.hid hF
  have HHhc0 := Lib.hid hc0
  clear B hF hnp hv0 hv1 hask hc0
  go_enter Try.func22, Try.ntmps22
  try simp only [List.append]
  go_wp2_with fail
  with_reducible refine HAS.out.mono ?_
  rintro e v0 ⟨rfl, rfl⟩
  go_wp2_with fail
  with_reducible refine HLA.out.mono ?_
  rintro e v0 ⟨rfl, rfl⟩
  go_wp2_with fail
  with_reducible refine HOP.out.mono ?_
  rintro e v0 ⟨rfl, rfl⟩
  go_wp2_with fail
  clear d0 d1 h01 h11
  have HK0 := Lib.hid (Kept.refl (fun r => r = p) w)
  have HC := Lib.hid (rput_room HB0.out HF.out (7, 0, 0) (by omega))
  unfold insC at HC
  refine HC.out.mono ?_
  rintro e v1 ⟨rfl, ⟨vc1, T, TN⟩, K⟩
  have HB1 := Lib.hid T
  have HK1 := Lib.hid K
  have HTN := Lib.hid TN
  clear T K HC TN
  go_wp2_with fail
  have HC := Lib.hid (rpop_any (ps := ps) (q := ((⟨qk0, qa0, qs0⟩ : Prt), ((.slice ga0 qs0.length gc0) : Value))) HB1.out (by have := HPS.out; (try simp); omega))
  dsimp only at HC
  refine HC.out.mono ?_
  rintro e u2 ⟨rfl, ⟨vp2, T⟩, K, G⟩
  obtain ⟨v2, hu⟩ : ∃ v2, u2.alloc (.cells #[.int .i64 qk0, .int .i64 qa0, (.slice ga0 qs0.length gc0)] 80) = v2 := ⟨_, rfl⟩
  have KU : Kept NB u2 v2 := by rw [← hu]; exact (Kept.refl _ _).alloc _
  have K2 : Kept (fun r => r = p) v1 v2 := K.trans (KU.mono (fun _ h => h.elim))
  have HX0_2 := Lib.hid (show v2.heap[u2.heap.size]? = some (.cells #[.int .i64 qk0, .int .i64 qa0, (.slice ga0 qs0.length gc0)] 80 (0, 0)) by rw [← hu]; exact (heap_alloc u2 _).1)
  have HG0_2 := Lib.hid (owns_kept G KU (fun _ _ h => h))
  have HGF0 := Lib.hid (show ∀ r, (Value.slice ga0 qs0.length gc0).ownBlock = some r → F r from fun r hr => HB1.out.fg ((⟨qk0, qa0, qs0⟩ : Prt), ((.slice ga0 qs0.length gc0) : Value)) (by simp) r hr)
  have HE0 := Lib.hid (show u2.heap.size ≠ p from Nat.ne_of_gt (Array.getElem?_eq_some_iff.1 T.b.own).1)
  have HB2 := Lib.hid (T.young KU)
  have HK2 := Lib.hid (HK1.out.trans K2)
  skip
  have y00 : v2.cell? ⟨u2.heap.size, 0, none⟩ = some (.int .i64 qk0) := by rw [cell_block HX0_2.out]; rfl
  have y01 : v2.cell? ⟨u2.heap.size, 1, none⟩ = some (.int .i64 qa0) := by rw [cell_block HX0_2.out]; rfl
  have y02 : v2.cell? ⟨u2.heap.size, 2, none⟩ = some (.slice ga0 qs0.length gc0) := by rw [cell_block HX0_2.out]; rfl
  clear T K G KU K2 HC
  go_wp2_with fail
  clear hu
  have hlk : (code ++ [(7, 0, 0)]).length = code.length + 1 := by simp
  obtain ⟨cb, cc, ca, hcv, k1, k2, hcp⟩ := HB2.out.cellA code.length (by omega)
  have hcn := HTN.out cb (by rw [hcv]; rfl)
  subst hcv
  have z0 : v2.cell? ⟨p, 0, none⟩ = some (.slice (some ⟨cb, 0, none⟩) (code.length + 1) cc) := by rw [cell_block HB2.out.b.own, hlk]; rfl
  have b1 : (0 : Int) ≤ (code.length : Int) := by omega
  have b2 : (code.length : Int) < (code.length : Int) + 1 := by omega
  have b3 : ((code.length : Int)).toNat = code.length := by omega
  have HM := Lib.hid (HB2.out.young ((Kept.refl NB v2).drew))
  have HCN := Lib.hid hcn
  have HCP := Lib.hid hcp
  clear hlk hcn hcp
  go_still_tail 9, (by kernel_rfl)
  change wpList _ _ _ _ _ v2.drew
  have k3 : v2.drew.cell? ⟨cb, code.length * 3 + 1, none⟩ = some (.int .i64 ca) := k1
  have k4 : v2.drew.frozen? ⟨cb, code.length * 3 + 1, none⟩ = false := k2
  obtain ⟨v3, hu⟩ : ∃ v3, v2.drew.setCell ⟨cb, code.length * 3 + 1, none⟩ (.int .i64 qa0) = v3 := ⟨_, rfl⟩
  have HB3 := Lib.hid (show RBld F v3 p _ vp2 (setA (code ++ [(7, 0, 0)]) code.length qa0) ps by rw [← hu]; exact HM.out.setAt code.length (by simp) qa0)
  have HK3 := Lib.hid (show Kept (fun r => r = p) w v3 by rw [← hu]; exact HK2.out.drew.setCell (q := ⟨cb, code.length * 3 + 1, none⟩) (.inr HCN.out) _)
  have HCO := Lib.hid (show v2.heap[cb]? = _ from (owns_block HB2.out.b.code rfl).choose_spec)
  have HX0_3 := Lib.hid (show v3.heap[u2.heap.size]? = some (.cells #[.int .i64 qk0, .int .i64 qa0, (.slice ga0 qs0.length gc0)] 80 (0, 0)) by
    rw [← hu]; exact (Below.heap_setCell v2.drew ⟨cb, code.length * 3 + 1, none⟩ _ _ (blk_ne HX0_2.out HCO.out (by decide))).trans HX0_2.out)
  have HG0_3 := Lib.hid (show v3.ownsRow 0 3 1 (.slice ga0 qs0.length gc0) qs0.length (qs0.map intV) by
    rw [← hu]; exact owns_off (q := ⟨cb, code.length * 3 + 1, none⟩) (show v2.drew.ownsRow 0 3 1 _ _ _ from HG0_2.out) (fun h => owns_ne HG0_2.out HCO.out (by decide) h) _)
  clear y00 y01 y02
  have y00 : v3.cell? ⟨u2.heap.size, 0, none⟩ = some (.int .i64 qk0) := by rw [cell_block HX0_3.out]; rfl
  have y01 : v3.cell? ⟨u2.heap.size, 1, none⟩ = some (.int .i64 qa0) := by rw [cell_block HX0_3.out]; rfl
  have y02 : v3.cell? ⟨u2.heap.size, 2, none⟩ = some (.slice ga0 qs0.length gc0) := by rw [cell_block HX0_3.out]; rfl
  clear b1 b2 b3 k1 k2 z0
  go_wp2_with fail
  clear k3 k4 hu
  have HC := Lib.hid (rcloses_any (HB3.out.young (Kept.refl NB v3)) (fun r hr => HF.out r (Nat.le_trans HK3.out.size (Nat.le_trans (Kept.refl NB v3).size hr))) qs0 (.slice ga0 qs0.length gc0) (by (try simp [setA_length]); omega) HG0_3.out (by intro g hg; have := HHhc0.out g hg; (try simp [setA_length]); omega))
  refine HC.out.mono ?_
  rintro e v4 ⟨rfl, ⟨vc4, T⟩, K⟩
  have K2 : Kept (fun r => r = p) v3 v4 := ((Kept.refl NB v3).mono (fun _ h => h.elim)).trans K
  have HB4 := Lib.hid T
  have HK4 := Lib.hid (HK3.out.trans K2)
  have HX0_4 := Lib.hid (loc_kept K2 HX0_3.out HE0.out)
  have HG0_4 := Lib.hid (gap_kept K2 HG0_3.out HB3.out.b.own)
  clear y00 y01 y02
  have y00 : v4.cell? ⟨u2.heap.size, 0, none⟩ = some (.int .i64 qk0) := by rw [cell_block HX0_4.out]; rfl
  have y01 : v4.cell? ⟨u2.heap.size, 1, none⟩ = some (.int .i64 qa0) := by rw [cell_block HX0_4.out]; rfl
  have y02 : v4.cell? ⟨u2.heap.size, 2, none⟩ = some (.slice ga0 qs0.length gc0) := by rw [cell_block HX0_4.out]; rfl
  clear T K K2 HC
  go_wp2_with fail
  all_goals (first | go_ret | skip)
  all_goals exact ⟨rfl, ⟨_, _, _, HB4.out, by simp⟩, HK4.out⟩
set_option maxRecDepth 100000 in
set_option maxHeartbeats 4000000 in
theorem rdo_12 {F : Nat → Prop} {w : World} {p : Nat} {vc vp : Value} {code : List I3} (ps : List (Prt × Value)) (qk0 qa0 : Int) (qs0 : List Int) (gv0 : Value) (B : RBld F w p vc vp code (ps ++ [((⟨qk0, qa0, qs0⟩ : Prt), (gv0 : Value))])) (hF : ∀ r, w.heap.size ≤ r → F r) (hlen : code.length < 499) (hpl : (ps ++ [((⟨qk0, qa0, qs0⟩ : Prt), (gv0 : Value))]).length < 33) (hask : asksB 12 ((ps ++ [((⟨qk0, qa0, qs0⟩ : Prt), (gv0 : Value))]).map (·.1)).reverse = true) (hc0 : ∀ g ∈ qs0, 0 ≤ g ∧ g < code.length) :
    Calls Try.prog 22 #[.pointer (some ⟨p, 0, none⟩), .int .i64 12] w fun e w' => e = .returned (.int .i64 0) ∧ (∃ vc' vp' ps', RBld F w' p vc' vp' (closeG (setA (code ++ [(8, 0, 0)]) code.length qa0) qs0) ps' ∧ ps'.map (·.1) = ps.map (·.1)) ∧ Kept (fun r => r = p) w w' := by
  have HAS := Lib.hid (show Calls Try.prog 33 #[.pointer (some ⟨p, 0, none⟩), .int .i64 12] w fun e w' => e = .returned (.bool true) ∧ w = w' by have := asks_any B.b (by omega) 12 (by decide) (by decide); rwa [hask] at this)
  have HLA := Lib.hid (show Calls Try.prog 34 #[.int .i64 12] w fun e w' => e = .returned (.int .u8 8) ∧ w = w' from lays_any 12 (by decide) (by decide) w)
  have HOP := Lib.hid (show Calls Try.prog 35 #[.int .i64 12] w fun e w' => e = .returned (.bool false) ∧ w = w' from opens_any 12 (by decide) (by decide) w)
  obtain ⟨ga0, gc0, hgv0, _, hgc0, _⟩ := owns_slice (B.b.gaps ((⟨qk0, qa0, qs0⟩ : Prt), (gv0 : Value)) (by simp))
  dsimp only at hgv0
  subst hgv0
  obtain ⟨a0, c0, hv0, h01, h02, _⟩ := owns_slice B.b.code
  obtain ⟨a1, c1, hv1, h11, h12, _⟩ := owns_slice B.b.parts
  have d0 : w.cell? ⟨p, 0, none⟩ = some (.slice a0 code.length c0) := by rw [cell_block B.b.own, hv0]; rfl
  have d1 : w.cell? ⟨p, 1, none⟩ = some (.slice a1 (ps ++ [((⟨qk0, qa0, qs0⟩ : Prt), ((.slice ga0 qs0.length gc0) : Value))]).length c1) := by rw [cell_block B.b.own, hv1]; rfl
  obtain ⟨np, hnp⟩ : ∃ np, np = (ps ++ [((⟨qk0, qa0, qs0⟩ : Prt), ((.slice ga0 qs0.length gc0) : Value))]).length := ⟨_, rfl⟩
  rw [← hnp] at d1 h11 hpl
  have HNP := Lib.hid hnp
  have HPS := Lib.hid (show ps.length < 98 by simp at hnp; omega)
  have HB0 := Lib.hid B
  have HF := Lib.hid hF
  have HHhc0 := Lib.hid hc0
  clear B hF hnp hv0 hv1 hask hc0
  go_enter Try.func22, Try.ntmps22
  try simp only [List.append]
  go_wp2_with fail
  with_reducible refine HAS.out.mono ?_
  rintro e v0 ⟨rfl, rfl⟩
  go_wp2_with fail
  with_reducible refine HLA.out.mono ?_
  rintro e v0 ⟨rfl, rfl⟩
  go_wp2_with fail
  with_reducible refine HOP.out.mono ?_
  rintro e v0 ⟨rfl, rfl⟩
  go_wp2_with fail
  clear d0 d1 h01 h11
  have HK0 := Lib.hid (Kept.refl (fun r => r = p) w)
  have HC := Lib.hid (rput_room HB0.out HF.out (8, 0, 0) (by omega))
  unfold insC at HC
  refine HC.out.mono ?_
  rintro e v1 ⟨rfl, ⟨vc1, T, TN⟩, K⟩
  have HB1 := Lib.hid T
  have HK1 := Lib.hid K
  have HTN := Lib.hid TN
  clear T K HC TN
  go_wp2_with fail
  have HC := Lib.hid (rpop_any (ps := ps) (q := ((⟨qk0, qa0, qs0⟩ : Prt), ((.slice ga0 qs0.length gc0) : Value))) HB1.out (by have := HPS.out; (try simp); omega))
  dsimp only at HC
  refine HC.out.mono ?_
  rintro e u2 ⟨rfl, ⟨vp2, T⟩, K, G⟩
  obtain ⟨v2, hu⟩ : ∃ v2, u2.alloc (.cells #[.int .i64 qk0, .int .i64 qa0, (.slice ga0 qs0.length gc0)] 80) = v2 := ⟨_, rfl⟩
  have KU : Kept NB u2 v2 := by rw [← hu]; exact (Kept.refl _ _).alloc _
  have K2 : Kept (fun r => r = p) v1 v2 := K.trans (KU.mono (fun _ h => h.elim))
  have HX0_2 := Lib.hid (show v2.heap[u2.heap.size]? = some (.cells #[.int .i64 qk0, .int .i64 qa0, (.slice ga0 qs0.length gc0)] 80 (0, 0)) by rw [← hu]; exact (heap_alloc u2 _).1)
  have HG0_2 := Lib.hid (owns_kept G KU (fun _ _ h => h))
  have HGF0 := Lib.hid (show ∀ r, (Value.slice ga0 qs0.length gc0).ownBlock = some r → F r from fun r hr => HB1.out.fg ((⟨qk0, qa0, qs0⟩ : Prt), ((.slice ga0 qs0.length gc0) : Value)) (by simp) r hr)
  have HE0 := Lib.hid (show u2.heap.size ≠ p from Nat.ne_of_gt (Array.getElem?_eq_some_iff.1 T.b.own).1)
  have HB2 := Lib.hid (T.young KU)
  have HK2 := Lib.hid (HK1.out.trans K2)
  skip
  have y00 : v2.cell? ⟨u2.heap.size, 0, none⟩ = some (.int .i64 qk0) := by rw [cell_block HX0_2.out]; rfl
  have y01 : v2.cell? ⟨u2.heap.size, 1, none⟩ = some (.int .i64 qa0) := by rw [cell_block HX0_2.out]; rfl
  have y02 : v2.cell? ⟨u2.heap.size, 2, none⟩ = some (.slice ga0 qs0.length gc0) := by rw [cell_block HX0_2.out]; rfl
  clear T K G KU K2 HC
  go_wp2_with fail
  clear hu
  have hlk : (code ++ [(8, 0, 0)]).length = code.length + 1 := by simp
  obtain ⟨cb, cc, ca, hcv, k1, k2, hcp⟩ := HB2.out.cellA code.length (by omega)
  have hcn := HTN.out cb (by rw [hcv]; rfl)
  subst hcv
  have z0 : v2.cell? ⟨p, 0, none⟩ = some (.slice (some ⟨cb, 0, none⟩) (code.length + 1) cc) := by rw [cell_block HB2.out.b.own, hlk]; rfl
  have b1 : (0 : Int) ≤ (code.length : Int) := by omega
  have b2 : (code.length : Int) < (code.length : Int) + 1 := by omega
  have b3 : ((code.length : Int)).toNat = code.length := by omega
  have HM := Lib.hid (HB2.out.young ((Kept.refl NB v2).drew))
  have HCN := Lib.hid hcn
  have HCP := Lib.hid hcp
  clear hlk hcn hcp
  go_still_tail 9, (by kernel_rfl)
  change wpList _ _ _ _ _ v2.drew
  have k3 : v2.drew.cell? ⟨cb, code.length * 3 + 1, none⟩ = some (.int .i64 ca) := k1
  have k4 : v2.drew.frozen? ⟨cb, code.length * 3 + 1, none⟩ = false := k2
  obtain ⟨v3, hu⟩ : ∃ v3, v2.drew.setCell ⟨cb, code.length * 3 + 1, none⟩ (.int .i64 qa0) = v3 := ⟨_, rfl⟩
  have HB3 := Lib.hid (show RBld F v3 p _ vp2 (setA (code ++ [(8, 0, 0)]) code.length qa0) ps by rw [← hu]; exact HM.out.setAt code.length (by simp) qa0)
  have HK3 := Lib.hid (show Kept (fun r => r = p) w v3 by rw [← hu]; exact HK2.out.drew.setCell (q := ⟨cb, code.length * 3 + 1, none⟩) (.inr HCN.out) _)
  have HCO := Lib.hid (show v2.heap[cb]? = _ from (owns_block HB2.out.b.code rfl).choose_spec)
  have HX0_3 := Lib.hid (show v3.heap[u2.heap.size]? = some (.cells #[.int .i64 qk0, .int .i64 qa0, (.slice ga0 qs0.length gc0)] 80 (0, 0)) by
    rw [← hu]; exact (Below.heap_setCell v2.drew ⟨cb, code.length * 3 + 1, none⟩ _ _ (blk_ne HX0_2.out HCO.out (by decide))).trans HX0_2.out)
  have HG0_3 := Lib.hid (show v3.ownsRow 0 3 1 (.slice ga0 qs0.length gc0) qs0.length (qs0.map intV) by
    rw [← hu]; exact owns_off (q := ⟨cb, code.length * 3 + 1, none⟩) (show v2.drew.ownsRow 0 3 1 _ _ _ from HG0_2.out) (fun h => owns_ne HG0_2.out HCO.out (by decide) h) _)
  clear y00 y01 y02
  have y00 : v3.cell? ⟨u2.heap.size, 0, none⟩ = some (.int .i64 qk0) := by rw [cell_block HX0_3.out]; rfl
  have y01 : v3.cell? ⟨u2.heap.size, 1, none⟩ = some (.int .i64 qa0) := by rw [cell_block HX0_3.out]; rfl
  have y02 : v3.cell? ⟨u2.heap.size, 2, none⟩ = some (.slice ga0 qs0.length gc0) := by rw [cell_block HX0_3.out]; rfl
  clear b1 b2 b3 k1 k2 z0
  go_wp2_with fail
  clear k3 k4 hu
  have HC := Lib.hid (rcloses_any (HB3.out.young (Kept.refl NB v3)) (fun r hr => HF.out r (Nat.le_trans HK3.out.size (Nat.le_trans (Kept.refl NB v3).size hr))) qs0 (.slice ga0 qs0.length gc0) (by (try simp [setA_length]); omega) HG0_3.out (by intro g hg; have := HHhc0.out g hg; (try simp [setA_length]); omega))
  refine HC.out.mono ?_
  rintro e v4 ⟨rfl, ⟨vc4, T⟩, K⟩
  have K2 : Kept (fun r => r = p) v3 v4 := ((Kept.refl NB v3).mono (fun _ h => h.elim)).trans K
  have HB4 := Lib.hid T
  have HK4 := Lib.hid (HK3.out.trans K2)
  have HX0_4 := Lib.hid (loc_kept K2 HX0_3.out HE0.out)
  have HG0_4 := Lib.hid (gap_kept K2 HG0_3.out HB3.out.b.own)
  clear y00 y01 y02
  have y00 : v4.cell? ⟨u2.heap.size, 0, none⟩ = some (.int .i64 qk0) := by rw [cell_block HX0_4.out]; rfl
  have y01 : v4.cell? ⟨u2.heap.size, 1, none⟩ = some (.int .i64 qa0) := by rw [cell_block HX0_4.out]; rfl
  have y02 : v4.cell? ⟨u2.heap.size, 2, none⟩ = some (.slice ga0 qs0.length gc0) := by rw [cell_block HX0_4.out]; rfl
  clear T K K2 HC
  go_wp2_with fail
  all_goals (first | go_ret | skip)
  all_goals exact ⟨rfl, ⟨_, _, _, HB4.out, by simp⟩, HK4.out⟩
set_option maxRecDepth 100000 in
set_option maxHeartbeats 4000000 in
theorem rdo_13 {F : Nat → Prop} {w : World} {p : Nat} {vc vp : Value} {code : List I3} (l1 l2 : List (Prt × Value)) (qa0 : Int) (qs0 : List Int) (gv0 : Value) (h2 : ∀ y ∈ l2, y.1.kind ≠ 2) (hgl : qs0.length < 600) (B : RBld F w p vc vp code (l1 ++ ((⟨2, qa0, qs0⟩ : Prt), (gv0 : Value)) :: l2)) (hF : ∀ r, w.heap.size ≤ r → F r) (hlen : code.length < 499) (hpl : (l1 ++ ((⟨2, qa0, qs0⟩ : Prt), (gv0 : Value)) :: l2).length < 33) (hask : asksB 13 ((l1 ++ ((⟨2, qa0, qs0⟩ : Prt), (gv0 : Value)) :: l2).map (·.1)).reverse = true)  :
    Calls Try.prog 22 #[.pointer (some ⟨p, 0, none⟩), .int .i64 13] w fun e w' => e = .returned (.int .i64 0) ∧ (∃ vc' vp' ps', RBld F w' p vc' vp' (code ++ [(9, 0, 0)]) ps' ∧ ps'.map (·.1) = l1.map (·.1) ++ ⟨2, qa0, qs0 ++ [(code.length : Int)]⟩ :: l2.map (·.1)) ∧ Kept (fun r => r = p) w w' := by
  have HAS := Lib.hid (show Calls Try.prog 33 #[.pointer (some ⟨p, 0, none⟩), .int .i64 13] w fun e w' => e = .returned (.bool true) ∧ w = w' by have := asks_any B.b (by omega) 13 (by decide) (by decide); rwa [hask] at this)
  have HLA := Lib.hid (show Calls Try.prog 34 #[.int .i64 13] w fun e w' => e = .returned (.int .u8 9) ∧ w = w' from lays_any 13 (by decide) (by decide) w)
  have HOP := Lib.hid (show Calls Try.prog 35 #[.int .i64 13] w fun e w' => e = .returned (.bool false) ∧ w = w' from opens_any 13 (by decide) (by decide) w)
  obtain ⟨a0, c0, hv0, h01, h02, _⟩ := owns_slice B.b.code
  obtain ⟨a1, c1, hv1, h11, h12, _⟩ := owns_slice B.b.parts
  have d0 : w.cell? ⟨p, 0, none⟩ = some (.slice a0 code.length c0) := by rw [cell_block B.b.own, hv0]; rfl
  have d1 : w.cell? ⟨p, 1, none⟩ = some (.slice a1 (l1 ++ ((⟨2, qa0, qs0⟩ : Prt), (gv0 : Value)) :: l2).length c1) := by rw [cell_block B.b.own, hv1]; rfl
  obtain ⟨np, hnp⟩ : ∃ np, np = (l1 ++ ((⟨2, qa0, qs0⟩ : Prt), (gv0 : Value)) :: l2).length := ⟨_, rfl⟩
  rw [← hnp] at d1 h11 hpl
  have HNP := Lib.hid hnp
  have HPS := Lib.hid (show (l1 ++ l2).length < 98 by rw [List.length_append] at hnp; rw [List.length_append]; simp at hnp; omega)
  have HB0 := Lib.hid B
  have HF := Lib.hid hF
  have HHh2 := Lib.hid h2
  have HHhgl := Lib.hid hgl
  clear B hF hnp hv0 hv1 hask h2 hgl
  go_enter Try.func22, Try.ntmps22
  try simp only [List.append]
  go_wp2_with fail
  with_reducible refine HAS.out.mono ?_
  rintro e v0 ⟨rfl, rfl⟩
  go_wp2_with fail
  with_reducible refine HLA.out.mono ?_
  rintro e v0 ⟨rfl, rfl⟩
  go_wp2_with fail
  with_reducible refine HOP.out.mono ?_
  rintro e v0 ⟨rfl, rfl⟩
  go_wp2_with fail
  clear d0 d1 h01 h11
  have HK0 := Lib.hid (Kept.refl (fun r => r = p) w)
  have HC := Lib.hid (rput_room HB0.out HF.out (9, 0, 0) (by omega))
  unfold insC at HC
  refine HC.out.mono ?_
  rintro e v1 ⟨rfl, ⟨vc1, T, TN⟩, K⟩
  have HB1 := Lib.hid T
  have HK1 := Lib.hid K
  have HTN := Lib.hid TN
  clear T K HC TN
  go_wp2_with fail
  have HC := Lib.hid (rleave_any HB1.out (fun r hr => HF.out r (Nat.le_trans HK1.out.size hr)) (by have := HPS.out; rw [List.length_append] at this; rw [List.length_append, List.length_cons]; omega) rfl HHh2.out HHhgl.out (code.length : Int))
  dsimp only at HC
  refine HC.out.mono ?_
  rintro e v2 ⟨rfl, ⟨vp2, gv2, T⟩, K⟩
  have HB2 := Lib.hid T
  have HK2 := Lib.hid (HK1.out.trans K)
  clear T K HC
  go_wp2_with fail
  all_goals (first | go_ret | skip)
  all_goals exact ⟨rfl, ⟨_, _, _, HB2.out, by simp⟩, HK2.out⟩
set_option maxRecDepth 100000 in
set_option maxHeartbeats 4000000 in
theorem rdo_14 {F : Nat → Prop} {w : World} {p : Nat} {vc vp : Value} {code : List I3} (ps : List (Prt × Value)) (B : RBld F w p vc vp code ps) (hF : ∀ r, w.heap.size ≤ r → F r) (_hlen : code.length ≤ 499) (hpl : ps.length < 32) (hask : asksB 14 (ps.map (·.1)).reverse = true)  :
    Calls Try.prog 22 #[.pointer (some ⟨p, 0, none⟩), .int .i64 14] w fun e w' => e = .returned (.int .i64 0) ∧ (∃ vc' vp' ps', RBld F w' p vc' vp' code ps' ∧ ps'.map (·.1) = ps.map (·.1) ++ [(⟨3, 0, []⟩ : Prt)]) ∧ Kept (fun r => r = p) w w' := by
  have HAS := Lib.hid (show Calls Try.prog 33 #[.pointer (some ⟨p, 0, none⟩), .int .i64 14] w fun e w' => e = .returned (.bool true) ∧ w = w' by have := asks_any B.b (by omega) 14 (by decide) (by decide); rwa [hask] at this)
  have HLA := Lib.hid (show Calls Try.prog 34 #[.int .i64 14] w fun e w' => e = .returned (.int .u8 0) ∧ w = w' from lays_any 14 (by decide) (by decide) w)
  have HOP := Lib.hid (show Calls Try.prog 35 #[.int .i64 14] w fun e w' => e = .returned (.bool true) ∧ w = w' from opens_any 14 (by decide) (by decide) w)
  obtain ⟨a0, c0, hv0, h01, h02, _⟩ := owns_slice B.b.code
  obtain ⟨a1, c1, hv1, h11, h12, _⟩ := owns_slice B.b.parts
  have d0 : w.cell? ⟨p, 0, none⟩ = some (.slice a0 code.length c0) := by rw [cell_block B.b.own, hv0]; rfl
  have d1 : w.cell? ⟨p, 1, none⟩ = some (.slice a1 ps.length c1) := by rw [cell_block B.b.own, hv1]; rfl
  obtain ⟨np, hnp⟩ : ∃ np, np = ps.length := ⟨_, rfl⟩
  rw [← hnp] at d1 h11 hpl
  have HNP := Lib.hid hnp
  have HPS := Lib.hid (show ps.length < 98 by omega)
  have HB0 := Lib.hid B
  have HF := Lib.hid hF
  clear B hF hnp hv0 hv1 hask 
  go_enter Try.func22, Try.ntmps22
  try simp only [List.append]
  go_wp2_with fail
  with_reducible refine HAS.out.mono ?_
  rintro e v0 ⟨rfl, rfl⟩
  go_wp2_with fail
  with_reducible refine HLA.out.mono ?_
  rintro e v0 ⟨rfl, rfl⟩
  go_wp2_with fail
  with_reducible refine HOP.out.mono ?_
  rintro e v0 ⟨rfl, rfl⟩
  go_wp2_with fail
  clear d0 d1 h01 h11
  have HK0 := Lib.hid (Kept.refl (fun r => r = p) w)
  go_wp2_with fail
  have HC := Lib.hid (rpush_any (HB0.out.young (Kept.refl NB w)) (fun r hr => HF.out r (Nat.le_trans HK0.out.size (Nat.le_trans (Kept.refl NB w).size hr))) 3 (0) [] (.slice none 0 0) (by have := HPS.out; (try simp); omega) own_nil (by simp [Value.ownBlock]))
  refine HC.out.mono ?_
  rintro e v1 ⟨rfl, ⟨vp1, T⟩, K⟩
  have K2 : Kept (fun r => r = p) w v1 := ((Kept.refl NB w).mono (fun _ h => h.elim)).trans K
  have HB1 := Lib.hid T
  have HK1 := Lib.hid (HK0.out.trans K2)
  clear T K K2 HC
  go_wp2_with fail
  all_goals (first | go_ret | skip)
  all_goals exact ⟨rfl, ⟨_, _, _, HB1.out, by simp⟩, HK1.out⟩
set_option maxRecDepth 100000 in
set_option maxHeartbeats 4000000 in
theorem rdo_15 {F : Nat → Prop} {w : World} {p : Nat} {vc vp : Value} {code : List I3} (ps : List (Prt × Value)) (B : RBld F w p vc vp code ps) (hF : ∀ r, w.heap.size ≤ r → F r) (hlen : code.length < 499) (hpl : ps.length < 32) (hask : asksB 15 (ps.map (·.1)).reverse = true)  :
    Calls Try.prog 22 #[.pointer (some ⟨p, 0, none⟩), .int .i64 15] w fun e w' => e = .returned (.int .i64 0) ∧ (∃ vc' vp' ps', RBld F w' p vc' vp' (code ++ [(10, 0, 0)]) ps' ∧ ps'.map (·.1) = ps.map (·.1) ++ [(⟨4, (code.length : Int), []⟩ : Prt)]) ∧ Kept (fun r => r = p) w w' := by
  have HAS := Lib.hid (show Calls Try.prog 33 #[.pointer (some ⟨p, 0, none⟩), .int .i64 15] w fun e w' => e = .returned (.bool true) ∧ w = w' by have := asks_any B.b (by omega) 15 (by decide) (by decide); rwa [hask] at this)
  have HLA := Lib.hid (show Calls Try.prog 34 #[.int .i64 15] w fun e w' => e = .returned (.int .u8 10) ∧ w = w' from lays_any 15 (by decide) (by decide) w)
  have HOP := Lib.hid (show Calls Try.prog 35 #[.int .i64 15] w fun e w' => e = .returned (.bool true) ∧ w = w' from opens_any 15 (by decide) (by decide) w)
  obtain ⟨a0, c0, hv0, h01, h02, _⟩ := owns_slice B.b.code
  obtain ⟨a1, c1, hv1, h11, h12, _⟩ := owns_slice B.b.parts
  have d0 : w.cell? ⟨p, 0, none⟩ = some (.slice a0 code.length c0) := by rw [cell_block B.b.own, hv0]; rfl
  have d1 : w.cell? ⟨p, 1, none⟩ = some (.slice a1 ps.length c1) := by rw [cell_block B.b.own, hv1]; rfl
  obtain ⟨np, hnp⟩ : ∃ np, np = ps.length := ⟨_, rfl⟩
  rw [← hnp] at d1 h11 hpl
  have HNP := Lib.hid hnp
  have HPS := Lib.hid (show ps.length < 98 by omega)
  have HB0 := Lib.hid B
  have HF := Lib.hid hF
  clear B hF hnp hv0 hv1 hask 
  go_enter Try.func22, Try.ntmps22
  try simp only [List.append]
  go_wp2_with fail
  with_reducible refine HAS.out.mono ?_
  rintro e v0 ⟨rfl, rfl⟩
  go_wp2_with fail
  with_reducible refine HLA.out.mono ?_
  rintro e v0 ⟨rfl, rfl⟩
  go_wp2_with fail
  with_reducible refine HOP.out.mono ?_
  rintro e v0 ⟨rfl, rfl⟩
  go_wp2_with fail
  clear d0 d1 h01 h11
  have HK0 := Lib.hid (Kept.refl (fun r => r = p) w)
  have HC := Lib.hid (rput_room HB0.out HF.out (10, 0, 0) (by omega))
  unfold insC at HC
  refine HC.out.mono ?_
  rintro e v1 ⟨rfl, ⟨vc1, T, TN⟩, K⟩
  have HB1 := Lib.hid T
  have HK1 := Lib.hid K
  have HTN := Lib.hid TN
  clear T K HC TN
  go_wp2_with fail
  have HC := Lib.hid (rpush_any (HB1.out.young (Kept.refl NB v1)) (fun r hr => HF.out r (Nat.le_trans HK1.out.size (Nat.le_trans (Kept.refl NB v1).size hr))) 4 ((code.length : Int)) [] (.slice none 0 0) (by have := HPS.out; (try simp); omega) own_nil (by simp [Value.ownBlock]))
  refine HC.out.mono ?_
  rintro e v2 ⟨rfl, ⟨vp2, T⟩, K⟩
  have K2 : Kept (fun r => r = p) v1 v2 := ((Kept.refl NB v1).mono (fun _ h => h.elim)).trans K
  have HB2 := Lib.hid T
  have HK2 := Lib.hid (HK1.out.trans K2)
  clear T K K2 HC
  go_wp2_with fail
  all_goals (first | go_ret | skip)
  all_goals exact ⟨rfl, ⟨_, _, _, HB2.out, by simp⟩, HK2.out⟩
set_option maxRecDepth 100000 in
set_option maxHeartbeats 4000000 in
theorem rdo_16 {F : Nat → Prop} {w : World} {p : Nat} {vc vp : Value} {code : List I3} (ps : List (Prt × Value)) (qk0 qa0 : Int) (qs0 : List Int) (gv0 : Value) (qk1 qa1 : Int) (qs1 : List Int) (gv1 : Value) (B : RBld F w p vc vp code ((ps ++ [((⟨qk1, qa1, qs1⟩ : Prt), (gv1 : Value))]) ++ [((⟨qk0, qa0, qs0⟩ : Prt), (gv0 : Value))])) (hF : ∀ r, w.heap.size ≤ r → F r) (hlen : code.length < 499) (hpl : ((ps ++ [((⟨qk1, qa1, qs1⟩ : Prt), (gv1 : Value))]) ++ [((⟨qk0, qa0, qs0⟩ : Prt), (gv0 : Value))]).length < 33) (hask : asksB 16 (((ps ++ [((⟨qk1, qa1, qs1⟩ : Prt), (gv1 : Value))]) ++ [((⟨qk0, qa0, qs0⟩ : Prt), (gv0 : Value))]).map (·.1)).reverse = true) (hgl : qs1.length < 600) (hc0 : 0 ≤ qa0 ∧ qa0 < code.length) :
    Calls Try.prog 22 #[.pointer (some ⟨p, 0, none⟩), .int .i64 16] w fun e w' => e = .returned (.int .i64 0) ∧ (∃ vc' vp' ps', RBld F w' p vc' vp' (closeG (code ++ [(3, 0, 0)]) [qa0]) ps' ∧ ps'.map (·.1) = ps.map (·.1) ++ [(⟨3, 0, qs1 ++ [(code.length : Int)]⟩ : Prt)]) ∧ Kept (fun r => r = p) w w' := by
  have HAS := Lib.hid (show Calls Try.prog 33 #[.pointer (some ⟨p, 0, none⟩), .int .i64 16] w fun e w' => e = .returned (.bool true) ∧ w = w' by have := asks_any B.b (by omega) 16 (by decide) (by decide); rwa [hask] at this)
  have HLA := Lib.hid (show Calls Try.prog 34 #[.int .i64 16] w fun e w' => e = .returned (.int .u8 3) ∧ w = w' from lays_any 16 (by decide) (by decide) w)
  have HOP := Lib.hid (show Calls Try.prog 35 #[.int .i64 16] w fun e w' => e = .returned (.bool false) ∧ w = w' from opens_any 16 (by decide) (by decide) w)
  obtain ⟨ga0, gc0, hgv0, _, hgc0, _⟩ := owns_slice (B.b.gaps ((⟨qk0, qa0, qs0⟩ : Prt), (gv0 : Value)) (by simp))
  dsimp only at hgv0
  subst hgv0
  obtain ⟨ga1, gc1, hgv1, _, hgc1, _⟩ := owns_slice (B.b.gaps ((⟨qk1, qa1, qs1⟩ : Prt), (gv1 : Value)) (by simp))
  dsimp only at hgv1
  subst hgv1
  obtain ⟨a0, c0, hv0, h01, h02, _⟩ := owns_slice B.b.code
  obtain ⟨a1, c1, hv1, h11, h12, _⟩ := owns_slice B.b.parts
  have d0 : w.cell? ⟨p, 0, none⟩ = some (.slice a0 code.length c0) := by rw [cell_block B.b.own, hv0]; rfl
  have d1 : w.cell? ⟨p, 1, none⟩ = some (.slice a1 ((ps ++ [((⟨qk1, qa1, qs1⟩ : Prt), ((.slice ga1 qs1.length gc1) : Value))]) ++ [((⟨qk0, qa0, qs0⟩ : Prt), ((.slice ga0 qs0.length gc0) : Value))]).length c1) := by rw [cell_block B.b.own, hv1]; rfl
  obtain ⟨np, hnp⟩ : ∃ np, np = ((ps ++ [((⟨qk1, qa1, qs1⟩ : Prt), ((.slice ga1 qs1.length gc1) : Value))]) ++ [((⟨qk0, qa0, qs0⟩ : Prt), ((.slice ga0 qs0.length gc0) : Value))]).length := ⟨_, rfl⟩
  rw [← hnp] at d1 h11 hpl
  have HNP := Lib.hid hnp
  have HPS := Lib.hid (show ps.length < 98 by simp at hnp; omega)
  have HB0 := Lib.hid B
  have HF := Lib.hid hF
  have HHhgl := Lib.hid hgl
  have HHhc0 := Lib.hid hc0
  clear B hF hnp hv0 hv1 hask hgl hc0
  go_enter Try.func22, Try.ntmps22
  try simp only [List.append]
  go_wp2_with fail
  with_reducible refine HAS.out.mono ?_
  rintro e v0 ⟨rfl, rfl⟩
  go_wp2_with fail
  with_reducible refine HLA.out.mono ?_
  rintro e v0 ⟨rfl, rfl⟩
  go_wp2_with fail
  with_reducible refine HOP.out.mono ?_
  rintro e v0 ⟨rfl, rfl⟩
  go_wp2_with fail
  clear d0 d1 h01 h11
  have HK0 := Lib.hid (Kept.refl (fun r => r = p) w)
  have HC := Lib.hid (rput_room HB0.out HF.out (3, 0, 0) (by omega))
  unfold insC at HC
  refine HC.out.mono ?_
  rintro e v1 ⟨rfl, ⟨vc1, T, TN⟩, K⟩
  have HB1 := Lib.hid T
  have HK1 := Lib.hid K
  have HTN := Lib.hid TN
  clear T K HC TN
  go_wp2_with fail
  have HC := Lib.hid (rpop_any (ps := (ps ++ [((⟨qk1, qa1, qs1⟩ : Prt), ((.slice ga1 qs1.length gc1) : Value))])) (q := ((⟨qk0, qa0, qs0⟩ : Prt), ((.slice ga0 qs0.length gc0) : Value))) HB1.out (by have := HPS.out; (try simp); omega))
  dsimp only at HC
  refine HC.out.mono ?_
  rintro e u2 ⟨rfl, ⟨vp2, T⟩, K, G⟩
  obtain ⟨v2, hu⟩ : ∃ v2, u2.alloc (.cells #[.int .i64 qk0, .int .i64 qa0, (.slice ga0 qs0.length gc0)] 80) = v2 := ⟨_, rfl⟩
  have KU : Kept NB u2 v2 := by rw [← hu]; exact (Kept.refl _ _).alloc _
  have K2 : Kept (fun r => r = p) v1 v2 := K.trans (KU.mono (fun _ h => h.elim))
  have HX0_2 := Lib.hid (show v2.heap[u2.heap.size]? = some (.cells #[.int .i64 qk0, .int .i64 qa0, (.slice ga0 qs0.length gc0)] 80 (0, 0)) by rw [← hu]; exact (heap_alloc u2 _).1)
  have HG0_2 := Lib.hid (owns_kept G KU (fun _ _ h => h))
  have HGF0 := Lib.hid (show ∀ r, (Value.slice ga0 qs0.length gc0).ownBlock = some r → F r from fun r hr => HB1.out.fg ((⟨qk0, qa0, qs0⟩ : Prt), ((.slice ga0 qs0.length gc0) : Value)) (by simp) r hr)
  have HE0 := Lib.hid (show u2.heap.size ≠ p from Nat.ne_of_gt (Array.getElem?_eq_some_iff.1 T.b.own).1)
  have HB2 := Lib.hid (T.young KU)
  have HK2 := Lib.hid (HK1.out.trans K2)
  skip
  have y00 : v2.cell? ⟨u2.heap.size, 0, none⟩ = some (.int .i64 qk0) := by rw [cell_block HX0_2.out]; rfl
  have y01 : v2.cell? ⟨u2.heap.size, 1, none⟩ = some (.int .i64 qa0) := by rw [cell_block HX0_2.out]; rfl
  have y02 : v2.cell? ⟨u2.heap.size, 2, none⟩ = some (.slice ga0 qs0.length gc0) := by rw [cell_block HX0_2.out]; rfl
  clear T K G KU K2 HC
  go_wp2_with fail
  clear hu
  have HC := Lib.hid (rpop_any (ps := ps) (q := ((⟨qk1, qa1, qs1⟩ : Prt), ((.slice ga1 qs1.length gc1) : Value))) HB2.out (by have := HPS.out; (try simp); omega))
  dsimp only at HC
  refine HC.out.mono ?_
  rintro e u3 ⟨rfl, ⟨vp3, T⟩, K, G⟩
  obtain ⟨v3, hu⟩ : ∃ v3, u3.alloc (.cells #[.int .i64 qk1, .int .i64 qa1, (.slice ga1 qs1.length gc1)] 80) = v3 := ⟨_, rfl⟩
  have KU : Kept NB u3 v3 := by rw [← hu]; exact (Kept.refl _ _).alloc _
  have K2 : Kept (fun r => r = p) v2 v3 := K.trans (KU.mono (fun _ h => h.elim))
  have HX1_3 := Lib.hid (show v3.heap[u3.heap.size]? = some (.cells #[.int .i64 qk1, .int .i64 qa1, (.slice ga1 qs1.length gc1)] 80 (0, 0)) by rw [← hu]; exact (heap_alloc u3 _).1)
  have HG1_3 := Lib.hid (owns_kept G KU (fun _ _ h => h))
  have HGF1 := Lib.hid (show ∀ r, (Value.slice ga1 qs1.length gc1).ownBlock = some r → F r from fun r hr => HB2.out.fg ((⟨qk1, qa1, qs1⟩ : Prt), ((.slice ga1 qs1.length gc1) : Value)) (by simp) r hr)
  have HE1 := Lib.hid (show u3.heap.size ≠ p from Nat.ne_of_gt (Array.getElem?_eq_some_iff.1 T.b.own).1)
  have HB3 := Lib.hid (T.young KU)
  have HK3 := Lib.hid (HK2.out.trans K2)
  have HX0_3 := Lib.hid (loc_kept K2 HX0_2.out HE0.out)
  have HG0_3 := Lib.hid (gap_kept K2 HG0_2.out HB2.out.b.own)
  clear y00 y01 y02
  have y00 : v3.cell? ⟨u2.heap.size, 0, none⟩ = some (.int .i64 qk0) := by rw [cell_block HX0_3.out]; rfl
  have y01 : v3.cell? ⟨u2.heap.size, 1, none⟩ = some (.int .i64 qa0) := by rw [cell_block HX0_3.out]; rfl
  have y02 : v3.cell? ⟨u2.heap.size, 2, none⟩ = some (.slice ga0 qs0.length gc0) := by rw [cell_block HX0_3.out]; rfl
  skip
  have y10 : v3.cell? ⟨u3.heap.size, 0, none⟩ = some (.int .i64 qk1) := by rw [cell_block HX1_3.out]; rfl
  have y11 : v3.cell? ⟨u3.heap.size, 1, none⟩ = some (.int .i64 qa1) := by rw [cell_block HX1_3.out]; rfl
  have y12 : v3.cell? ⟨u3.heap.size, 2, none⟩ = some (.slice ga1 qs1.length gc1) := by rw [cell_block HX1_3.out]; rfl
  clear T K G KU K2 HC
  have HGX := Lib.hid (gap_kept ((Kept.refl (fun r => r = p) v3).alloc (.cells #[] 3)) HG1_3.out HB3.out.b.own)
  have HXX := Lib.hid (loc_kept ((Kept.refl (fun r => r = p) v3).alloc (.cells #[] 3)) HX1_3.out HE1.out)
  have x2 : (v3.alloc (.cells #[] 3)).cell? ⟨u3.heap.size, 2, none⟩ = some (.slice ga1 qs1.length gc1) := by rw [cell_block HXX.out]; rfl
  have hgl := HHhgl.out
  have HG3 := Lib.hid (show qs1.length ≤ maxLen by simp only [maxLen]; omega)
  have HG4 := Lib.hid (show qs1.length * 8 ≤ 140737488355328 by omega)
  have HG5 := Lib.hid (show qs1.length + 1 ≤ maxLen by simp only [maxLen]; omega)
  have HG6 := Lib.hid (show (qs1.length + 1) * 8 ≤ 140737488355328 by omega)
  clear hgl
  obtain ⟨j0, hj0, hy0, hy1, hy2⟩ := info_parts info3r
  go_wp2_with (first
    | (at_builtin
       refine wpList_append_fresh _ rfl _ _ _ rfl 3 j0 _ 1 8 Try.underlying23 hj0 hy0 hy1 hy2 rfl (by omega) v3.heap.size rfl (heap_alloc v3 _).1 (.slice ga1 qs1.length gc1) qs1.length (qs1.map intV) rfl HGX.out (gapsV_one qs1) HG3.out HG4.out ?_
       intro a2 c2' w2 own2 kept2 at2
       have HK2 := Lib.hid (show Kept NB v3 w2 from Kept.young ((Kept.refl _ v3).alloc (.cells #[] 3)) kept2 (by rintro r rfl; exact Nat.le_refl _))
       have HA2 := Lib.hid (show ∀ k, (Value.slice a2 qs1.length c2').ownBlock = some k → v3.heap.size ≤ k from fun k hk => by
         rcases at2 k hk with h | h
         · omega
         · simp at h; omega)
       have HO2 := Lib.hid own2
       clear own2 kept2 at2)
    | (at_builtin
       refine wpList_append_lies _ rfl _ _ _ rfl 0 3 j0 _ 1 8 Try.underlying23 hj0 hy0 hy1 hy2 rfl (by omega) (.slice a2 qs1.length c2') qs1.length (qs1.map intV) rfl (HO2.out.alloc _) ⟨w2.heap.size, 0, none⟩ 1 1 [.int .i64 (code.length : Int)] rfl rfl (World.news_of_block (cs := #[.int .i64 (code.length : Int)]) (t := 3) (fr := (0, 0)) (heap_alloc_new w2 _)) (by simp [Value.oneCell']) (by omega) HG5.out HG6.out (Nat.zero_le _) _ rfl ?_
       intro gg cap w3 own3 grow3 at3 lt3
       have K3 : Kept NB v3 w3 := Kept.young (S := fun r => (Value.slice a2 qs1.length c2').ownBlock = some r) (HK2.out.alloc _) ((Kept.refl _ _).grown grow3 (fun k hk => .inl hk)) (fun r hr => HA2.out r hr)
       have HA3 := Lib.hid (show v3.heap.size ≤ gg by
         rcases at3 with h | h
         · exact HA2.out _ h
         · rw [h]; exact (HK2.out.alloc _).size)
       have HU4 := Lib.hid K3
       have HO3 := Lib.hid (own_snocG own3)
       clear own3 grow3 at3 lt3 K3))
  clear hu
  have HC := Lib.hid (rpush_any (HB3.out.young HU4.out) (fun r hr => HF.out r (Nat.le_trans HK3.out.size (Nat.le_trans HU4.out.size hr))) 3 (0) (qs1 ++ [(code.length : Int)]) (.slice (some ⟨gg, 0, none⟩) (qs1.length + 1) cap) (by have := HPS.out; (try simp); omega) HO3.out (fun r hr => by simp [Value.ownBlock] at hr; subst hr; exact HF.out _ (Nat.le_trans HK3.out.size HA3.out)))
  refine HC.out.mono ?_
  rintro e v4 ⟨rfl, ⟨vp4, T⟩, K⟩
  have K2 : Kept (fun r => r = p) v3 v4 := (HU4.out.mono (fun _ h => h.elim)).trans K
  have HB4 := Lib.hid T
  have HK4 := Lib.hid (HK3.out.trans K2)
  have HX0_4 := Lib.hid (loc_kept K2 HX0_3.out HE0.out)
  have HG0_4 := Lib.hid (gap_kept K2 HG0_3.out HB3.out.b.own)
  clear y00 y01 y02
  have y00 : v4.cell? ⟨u2.heap.size, 0, none⟩ = some (.int .i64 qk0) := by rw [cell_block HX0_4.out]; rfl
  have y01 : v4.cell? ⟨u2.heap.size, 1, none⟩ = some (.int .i64 qa0) := by rw [cell_block HX0_4.out]; rfl
  have y02 : v4.cell? ⟨u2.heap.size, 2, none⟩ = some (.slice ga0 qs0.length gc0) := by rw [cell_block HX0_4.out]; rfl
  have HX1_4 := Lib.hid (loc_kept K2 HX1_3.out HE1.out)
  have HG1_4 := Lib.hid (gap_kept K2 HG1_3.out HB3.out.b.own)
  clear y10 y11 y12
  have y10 : v4.cell? ⟨u3.heap.size, 0, none⟩ = some (.int .i64 qk1) := by rw [cell_block HX1_4.out]; rfl
  have y11 : v4.cell? ⟨u3.heap.size, 1, none⟩ = some (.int .i64 qa1) := by rw [cell_block HX1_4.out]; rfl
  have y12 : v4.cell? ⟨u3.heap.size, 2, none⟩ = some (.slice ga1 qs1.length gc1) := by rw [cell_block HX1_4.out]; rfl
  clear T K K2 HC
  obtain ⟨u5, hu5⟩ : ∃ u5, v4.alloc (.cells #[.int .i64 qa0] 3) = u5 := ⟨_, rfl⟩
  have KU : Kept NB v4 u5 := by rw [← hu5]; exact (Kept.refl _ _).alloc _
  have HUX5 := Lib.hid (show u5.heap[v4.heap.size]? = some (.cells #[.int .i64 qa0] 3 (0, 0)) by rw [← hu5]; exact (heap_alloc v4 _).1)
  have HU5 := Lib.hid KU
  clear KU
  go_wp2_with fail
  have HC := Lib.hid (rcloses_any (HB4.out.young HU5.out) (fun r hr => HF.out r (Nat.le_trans HK4.out.size (Nat.le_trans HU5.out.size hr))) [qa0] (.slice (some ⟨v4.heap.size, 0, none⟩) 1 1) (by (try simp); omega) (own_int1 HUX5.out) (by intro g hg; simp at hg; subst hg; have := HHhc0.out; (try simp); omega))
  refine HC.out.mono ?_
  rintro e v5 ⟨rfl, ⟨vc5, T⟩, K⟩
  have K2 : Kept (fun r => r = p) v4 v5 := (HU5.out.mono (fun _ h => h.elim)).trans K
  have HB5 := Lib.hid T
  have HK5 := Lib.hid (HK4.out.trans K2)
  have HX0_5 := Lib.hid (loc_kept K2 HX0_4.out HE0.out)
  have HG0_5 := Lib.hid (gap_kept K2 HG0_4.out HB4.out.b.own)
  clear y00 y01 y02
  have y00 : v5.cell? ⟨u2.heap.size, 0, none⟩ = some (.int .i64 qk0) := by rw [cell_block HX0_5.out]; rfl
  have y01 : v5.cell? ⟨u2.heap.size, 1, none⟩ = some (.int .i64 qa0) := by rw [cell_block HX0_5.out]; rfl
  have y02 : v5.cell? ⟨u2.heap.size, 2, none⟩ = some (.slice ga0 qs0.length gc0) := by rw [cell_block HX0_5.out]; rfl
  have HX1_5 := Lib.hid (loc_kept K2 HX1_4.out HE1.out)
  have HG1_5 := Lib.hid (gap_kept K2 HG1_4.out HB4.out.b.own)
  clear y10 y11 y12
  have y10 : v5.cell? ⟨u3.heap.size, 0, none⟩ = some (.int .i64 qk1) := by rw [cell_block HX1_5.out]; rfl
  have y11 : v5.cell? ⟨u3.heap.size, 1, none⟩ = some (.int .i64 qa1) := by rw [cell_block HX1_5.out]; rfl
  have y12 : v5.cell? ⟨u3.heap.size, 2, none⟩ = some (.slice ga1 qs1.length gc1) := by rw [cell_block HX1_5.out]; rfl
  clear T K K2 HC
  go_wp2_with fail
  all_goals (first | go_ret | skip)
  all_goals exact ⟨rfl, ⟨_, _, _, HB5.out, by simp⟩, HK5.out⟩
set_option maxRecDepth 100000 in
set_option maxHeartbeats 4000000 in
theorem rdo_17 {F : Nat → Prop} {w : World} {p : Nat} {vc vp : Value} {code : List I3} (ps : List (Prt × Value)) (qk0 qa0 : Int) (qs0 : List Int) (gv0 : Value) (B : RBld F w p vc vp code (ps ++ [((⟨qk0, qa0, qs0⟩ : Prt), (gv0 : Value))])) (hF : ∀ r, w.heap.size ≤ r → F r) (hlen : code.length < 499) (hpl : (ps ++ [((⟨qk0, qa0, qs0⟩ : Prt), (gv0 : Value))]).length < 33) (hask : asksB 17 ((ps ++ [((⟨qk0, qa0, qs0⟩ : Prt), (gv0 : Value))]).map (·.1)).reverse = true) (hc0 : ∀ g ∈ qs0, 0 ≤ g ∧ g < code.length) :
    Calls Try.prog 22 #[.pointer (some ⟨p, 0, none⟩), .int .i64 17] w fun e w' => e = .returned (.int .i64 0) ∧ (∃ vc' vp' ps', RBld F w' p vc' vp' (closeG (code ++ [(11, 0, 0)]) qs0) ps' ∧ ps'.map (·.1) = ps.map (·.1)) ∧ Kept (fun r => r = p) w w' := by
  have HAS := Lib.hid (show Calls Try.prog 33 #[.pointer (some ⟨p, 0, none⟩), .int .i64 17] w fun e w' => e = .returned (.bool true) ∧ w = w' by have := asks_any B.b (by omega) 17 (by decide) (by decide); rwa [hask] at this)
  have HLA := Lib.hid (show Calls Try.prog 34 #[.int .i64 17] w fun e w' => e = .returned (.int .u8 11) ∧ w = w' from lays_any 17 (by decide) (by decide) w)
  have HOP := Lib.hid (show Calls Try.prog 35 #[.int .i64 17] w fun e w' => e = .returned (.bool false) ∧ w = w' from opens_any 17 (by decide) (by decide) w)
  obtain ⟨ga0, gc0, hgv0, _, hgc0, _⟩ := owns_slice (B.b.gaps ((⟨qk0, qa0, qs0⟩ : Prt), (gv0 : Value)) (by simp))
  dsimp only at hgv0
  subst hgv0
  obtain ⟨a0, c0, hv0, h01, h02, _⟩ := owns_slice B.b.code
  obtain ⟨a1, c1, hv1, h11, h12, _⟩ := owns_slice B.b.parts
  have d0 : w.cell? ⟨p, 0, none⟩ = some (.slice a0 code.length c0) := by rw [cell_block B.b.own, hv0]; rfl
  have d1 : w.cell? ⟨p, 1, none⟩ = some (.slice a1 (ps ++ [((⟨qk0, qa0, qs0⟩ : Prt), ((.slice ga0 qs0.length gc0) : Value))]).length c1) := by rw [cell_block B.b.own, hv1]; rfl
  obtain ⟨np, hnp⟩ : ∃ np, np = (ps ++ [((⟨qk0, qa0, qs0⟩ : Prt), ((.slice ga0 qs0.length gc0) : Value))]).length := ⟨_, rfl⟩
  rw [← hnp] at d1 h11 hpl
  have HNP := Lib.hid hnp
  have HPS := Lib.hid (show ps.length < 98 by simp at hnp; omega)
  have HB0 := Lib.hid B
  have HF := Lib.hid hF
  have HHhc0 := Lib.hid hc0
  clear B hF hnp hv0 hv1 hask hc0
  go_enter Try.func22, Try.ntmps22
  try simp only [List.append]
  go_wp2_with fail
  with_reducible refine HAS.out.mono ?_
  rintro e v0 ⟨rfl, rfl⟩
  go_wp2_with fail
  with_reducible refine HLA.out.mono ?_
  rintro e v0 ⟨rfl, rfl⟩
  go_wp2_with fail
  with_reducible refine HOP.out.mono ?_
  rintro e v0 ⟨rfl, rfl⟩
  go_wp2_with fail
  clear d0 d1 h01 h11
  have HK0 := Lib.hid (Kept.refl (fun r => r = p) w)
  have HC := Lib.hid (rput_room HB0.out HF.out (11, 0, 0) (by omega))
  unfold insC at HC
  refine HC.out.mono ?_
  rintro e v1 ⟨rfl, ⟨vc1, T, TN⟩, K⟩
  have HB1 := Lib.hid T
  have HK1 := Lib.hid K
  have HTN := Lib.hid TN
  clear T K HC TN
  go_wp2_with fail
  have HC := Lib.hid (rpop_any (ps := ps) (q := ((⟨qk0, qa0, qs0⟩ : Prt), ((.slice ga0 qs0.length gc0) : Value))) HB1.out (by have := HPS.out; (try simp); omega))
  dsimp only at HC
  refine HC.out.mono ?_
  rintro e u2 ⟨rfl, ⟨vp2, T⟩, K, G⟩
  obtain ⟨v2, hu⟩ : ∃ v2, u2.alloc (.cells #[.int .i64 qk0, .int .i64 qa0, (.slice ga0 qs0.length gc0)] 80) = v2 := ⟨_, rfl⟩
  have KU : Kept NB u2 v2 := by rw [← hu]; exact (Kept.refl _ _).alloc _
  have K2 : Kept (fun r => r = p) v1 v2 := K.trans (KU.mono (fun _ h => h.elim))
  have HX0_2 := Lib.hid (show v2.heap[u2.heap.size]? = some (.cells #[.int .i64 qk0, .int .i64 qa0, (.slice ga0 qs0.length gc0)] 80 (0, 0)) by rw [← hu]; exact (heap_alloc u2 _).1)
  have HG0_2 := Lib.hid (owns_kept G KU (fun _ _ h => h))
  have HGF0 := Lib.hid (show ∀ r, (Value.slice ga0 qs0.length gc0).ownBlock = some r → F r from fun r hr => HB1.out.fg ((⟨qk0, qa0, qs0⟩ : Prt), ((.slice ga0 qs0.length gc0) : Value)) (by simp) r hr)
  have HE0 := Lib.hid (show u2.heap.size ≠ p from Nat.ne_of_gt (Array.getElem?_eq_some_iff.1 T.b.own).1)
  have HB2 := Lib.hid (T.young KU)
  have HK2 := Lib.hid (HK1.out.trans K2)
  skip
  have y00 : v2.cell? ⟨u2.heap.size, 0, none⟩ = some (.int .i64 qk0) := by rw [cell_block HX0_2.out]; rfl
  have y01 : v2.cell? ⟨u2.heap.size, 1, none⟩ = some (.int .i64 qa0) := by rw [cell_block HX0_2.out]; rfl
  have y02 : v2.cell? ⟨u2.heap.size, 2, none⟩ = some (.slice ga0 qs0.length gc0) := by rw [cell_block HX0_2.out]; rfl
  clear T K G KU K2 HC
  go_wp2_with fail
  clear hu
  have HC := Lib.hid (rcloses_any (HB2.out.young (Kept.refl NB v2)) (fun r hr => HF.out r (Nat.le_trans HK2.out.size (Nat.le_trans (Kept.refl NB v2).size hr))) qs0 (.slice ga0 qs0.length gc0) (by (try simp); omega) HG0_2.out (by intro g hg; have := HHhc0.out g hg; (try simp); omega))
  refine HC.out.mono ?_
  rintro e v3 ⟨rfl, ⟨vc3, T⟩, K⟩
  have K2 : Kept (fun r => r = p) v2 v3 := ((Kept.refl NB v2).mono (fun _ h => h.elim)).trans K
  have HB3 := Lib.hid T
  have HK3 := Lib.hid (HK2.out.trans K2)
  have HX0_3 := Lib.hid (loc_kept K2 HX0_2.out HE0.out)
  have HG0_3 := Lib.hid (gap_kept K2 HG0_2.out HB2.out.b.own)
  clear y00 y01 y02
  have y00 : v3.cell? ⟨u2.heap.size, 0, none⟩ = some (.int .i64 qk0) := by rw [cell_block HX0_3.out]; rfl
  have y01 : v3.cell? ⟨u2.heap.size, 1, none⟩ = some (.int .i64 qa0) := by rw [cell_block HX0_3.out]; rfl
  have y02 : v3.cell? ⟨u2.heap.size, 2, none⟩ = some (.slice ga0 qs0.length gc0) := by rw [cell_block HX0_3.out]; rfl
  clear T K K2 HC
  go_wp2_with fail
  all_goals (first | go_ret | skip)
  all_goals exact ⟨rfl, ⟨_, _, _, HB3.out, by simp⟩, HK3.out⟩
end Go.Proofs.Ytdpoobkfhmmbjaa
