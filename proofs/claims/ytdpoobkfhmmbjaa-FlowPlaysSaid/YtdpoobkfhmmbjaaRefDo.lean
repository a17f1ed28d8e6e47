/- The walks of the reference's Do, a theorem a word, each where the word is not refused. (Printed by gen_refdo.py.) -/
import Derived.Test.YtdpoobkfhmmbjaaRefDoA
import Derived.StillTailTactics
namespace Go.Proofs.Ytdpoobkfhmmbjaa
open Go.RowKit
open Go.MapKept (heap_alloc)
set_option maxRecDepth 100000 in
set_option maxHeartbeats 4000000 in
theorem rdo_1 {F : Nat → Prop} {w : World} {p : Nat} {vc vp : Value} {code : List I3} (ps : List (Prt × Value)) (B : RBld F w p vc vp code ps) (hF : ∀ r, w.heap.size ≤ r → F r) (hlen : code.length < 499) (hpl : ps.length < 32) (hask : asksB 1 (ps.map (·.1)).reverse = true)  :
    Calls Try.prog 22 #[.pointer (some ⟨p, 0, none⟩), .int .i64 1] w fun e w' => e = .returned (.int .i64 0) ∧ (∃ vc' vp' ps', RBld F w' p vc' vp' (code ++ [(4, 0, 0)]) ps' ∧ ps'.map (·.1) = ps.map (·.1) ++ [(⟨0, (code.length : Int), []⟩ : Prt)]) ∧ Kept (fun r => r = p) w w' := by
  have HAS := Lib.hid (show Calls Try.prog 33 #[.pointer (some ⟨p, 0, none⟩), .int .i64 1] w fun e w' => e = .returned (.bool true) ∧ w = w' by have := asks_any B.b (by omega) 1 (by decide) (by decide); rwa [hask] at this)
  have HLA := Lib.hid (show Calls Try.prog 34 #[.int .i64 1] w fun e w' => e = .returned (.int .u8 4) ∧ w = w' from lays_any 1 (by decide) (by decide) w)
  have HOP := Lib.hid (show Calls Try.prog 35 #[.int .i64 1] w fun e w' => e = .returned (.bool true) ∧ w = w' from opens_any 1 (by decide) (by decide) w)
  obtain ⟨a0, c0, hv0, h01, h02, _⟩ := owns_slice B.b.code
  obtain ⟨a1, c1, hv1, h11, h12, _⟩ := owns_slice B.b.parts
  have d0 : w.cell? ⟨p, 0, none⟩ = some (.slice a0 code.length c0) := by rw [cell_block B.b.own, hv0]; rfl
  have d1 : w.cell? ⟨p, 1, none⟩ = some (.slice a1 ps.length c1) := by rw [cell_block B.b.own, hv1]; rfl
  obtain ⟨np, hnp⟩ : ∃ np, np = ps.length := ⟨_, rfl⟩
  rw [← hnp] at d1 h11 hpl
  have HNP := Lib.hid hnp
  have HPS := Lib.hid (show ps.length < 98 by omega)
  have HB0 := Lib.hid B
  have HF := Lib.hid hF
  clear B hF hnp hv0 hv1 hask 
  go_enter Try.func22, Try.ntmps22
  try simp only [List.append]
  go_wp2_with fail
  with_reducible refine HAS.out.mono ?_
  rintro e v0 ⟨rfl, rfl⟩
  go_wp2_with fail
  with_reducible refine HLA.out.mono ?_
  rintro e v0 ⟨rfl, rfl⟩
  go_wp2_with fail
  with_reducible refine HOP.out.mono ?_
  rintro e v0 ⟨rfl, rfl⟩
  go_wp2_with fail
  clear d0 d1 h01 h11
  have HK0 := Lib.hid (Kept.refl (fun r => r = p) w)
  have HC := Lib.hid (rput_room HB0.out HF.out (4, 0, 0) (by omega))
  unfold insC at HC
  refine HC.out.mono ?_
  rintro e v1 ⟨rfl, ⟨vc1, T, TN⟩, K⟩
  have HB1 := Lib.hid T
  have HK1 := Lib.hid K
  have HTN := Lib.hid TN
  clear T K HC TN
  go_wp2_with fail
  have HC := Lib.hid (rpush_any (HB1.out.young (Kept.refl NB v1)) (fun r hr => HF.out r (Nat.le_trans HK1.out.size (Nat.le_trans (Kept.refl NB v1).size hr))) 0 ((code.length : Int)) [] (.slice none 0 0) (by have := HPS.out; (try simp); omega) own_nil (by simp [Value.ownBlock]))
  refine HC.out.mono ?_
  rintro e v2 ⟨rfl, ⟨vp2, T⟩, K⟩
  have K2 : Kept (fun r => r = p) v1 v2 := ((Kept.refl NB v1).mono (fun _ h => h.elim)).trans K
  have HB2 := Lib.hid T
  have HK2 := Lib.hid (HK1.out.trans K2)
  clear T K K2 HC
  go_wp2_with fail
  all_goals (first | go_ret | skip)
  all_goals exact ⟨rfl, ⟨_, _, _, HB2.out, by simp⟩, HK2.out⟩
set_option maxRecDepth 100000 in
set_option maxHeartbeats 4000000 in
theorem rdo_2 {F : Nat → Prop} {w : World} {p : Nat} {vc vp : Value} {code : List I3} (ps : List (Prt × Value)) (qk0 qa0 : Int) (qs0 : List Int) (gv0 : Value) (B : RBld F w p vc vp code (ps ++ [((⟨qk0, qa0, qs0⟩ : Prt), (gv0 : Value))])) (hF : ∀ r, w.heap.size ≤ r → F r) (hlen : code.length < 499) (hpl : (ps ++ [((⟨qk0, qa0, qs0⟩ : Prt), (gv0 : Value))]).length < 33) (hask : asksB 2 ((ps ++ [((⟨qk0, qa0, qs0⟩ : Prt), (gv0 : Value))]).map (·.1)).reverse = true) (hc0 : 0 ≤ qa0 ∧ qa0 < code.length) :
    Calls Try.prog 22 #[.pointer (some ⟨p, 0, none⟩), .int .i64 2] w fun e w' => e = .returned (.int .i64 0) ∧ (∃ vc' vp' ps', RBld F w' p vc' vp' (closeG (code ++ [(3, 0, 0)]) [qa0]) ps' ∧ ps'.map (·.1) = ps.map (·.1) ++ [(⟨0, (code.length : Int), []⟩ : Prt)]) ∧ Kept (fun r => r = p) w w' := by
  have HAS := Lib.hid (show Calls Try.prog 33 #[.pointer (some ⟨p, 0, none⟩), .int .i64 2] w fun e w' => e = .returned (.bool true) ∧ w = w' by have := asks_any B.b (by omega) 2 (by decide) (by decide); rwa [hask] at this)
  have HLA := Lib.hid (show Calls Try.prog 34 #[.int .i64 2] w fun e w' => e = .returned (.int .u8 3) ∧ w = w' from lays_any 2 (by decide) (by decide) w)
  have HOP := Lib.hid (show Calls Try.prog 35 #[.int .i64 2] w fun e w' => e = .returned (.bool false) ∧ w = w' from opens_any 2 (by decide) (by decide) w)
  obtain ⟨ga0, gc0, hgv0, _, hgc0, _⟩ := owns_slice (B.b.gaps ((⟨qk0, qa0, qs0⟩ : Prt), (gv0 : Value)) (by simp))
  dsimp only at hgv0
  subst hgv0
  obtain ⟨a0, c0, hv0, h01, h02, _⟩ := owns_slice B.b.code
  obtain ⟨a1, c1, hv1, h11, h12, _⟩ := owns_slice B.b.parts
  have d0 : w.cell? ⟨p, 0, none⟩ = some (.slice a0 code.length c0) := by rw [cell_block B.b.own, hv0]; rfl
  have d1 : w.cell? ⟨p, 1, none⟩ = some (.slice a1 (ps ++ [((⟨qk0, qa0, qs0⟩ : Prt), ((.slice ga0 qs0.length gc0) : Value))]).length c1) := by rw [cell_block B.b.own, hv1]; rfl
  obtain ⟨np, hnp⟩ : ∃ np, np = (ps ++ [((⟨qk0, qa0, qs0⟩ : Prt), ((.slice ga0 qs0.length gc0) : Value))]).length := ⟨_, rfl⟩
  rw [← hnp] at d1 h11 hpl
  have HNP := Lib.hid hnp
  have HPS := Lib.hid (show ps.length < 98 by simp at hnp; omega)
  have HB0 := Lib.hid B
  have HF := Lib.hid hF
  have HHhc0 := Lib.hid hc0
  clear B hF hnp hv0 hv1 hask hc0
  go_enter Try.func22, Try.ntmps22
  try simp only [List.append]
  go_wp2_with fail
  with_reducible refine HAS.out.mono ?_
  rintro e v0 ⟨rfl, rfl⟩
  go_wp2_with fail
  with_reducible refine HLA.out.mono ?_
  rintro e v0 ⟨rfl, rfl⟩
  go_wp2_with fail
  with_reducible refine HOP.out.mono ?_
  rintro e v0 ⟨rfl, rfl⟩
  go_wp2_with fail
  clear d0 d1 h01 h11
  have HK0 := Lib.hid (Kept.refl (fun r => r = p) w)
  have HC := Lib.hid (rput_room HB0.out HF.out (3, 0, 0) (by omega))
  unfold insC at HC
  refine HC.out.mono ?_
  rintro e v1 ⟨rfl, ⟨vc1, T, TN⟩, K⟩
  have HB1 := Lib.hid T
  have HK1 := Lib.hid K
  have HTN := Lib.hid TN
  clear T K HC TN
  go_wp2_with fail
  have HC := Lib.hid (rpop_any (ps := ps) (q := ((⟨qk0, qa0, qs0⟩ : Prt), ((.slice ga0 qs0.length gc0) : Value))) HB1.out (by have := HPS.out; (try simp); omega))
  dsimp only at HC
  refine HC.out.mono ?_
  rintro e u2 ⟨rfl, ⟨vp2, T⟩, K, G⟩
  obtain ⟨v2, hu⟩ : ∃ v2, u2.alloc (.cells #[.int .i64 qk0, .int .i64 qa0, (.slice ga0 qs0.length gc0)] 80) = v2 := ⟨_, rfl⟩
  have KU : Kept NB u2 v2 := by rw [← hu]; exact (Kept.refl _ _).alloc _
  have K2 : Kept (fun r => r = p) v1 v2 := K.trans (KU.mono (fun _ h => h.elim))
  have HX0_2 := Lib.hid (show v2.heap[u2.heap.size]? = some (.cells #[.int .i64 qk0, .int .i64 qa0, (.slice ga0 qs0.length gc0)] 80 (0, 0)) by rw [← hu]; exact (heap_alloc u2 _).1)
  have HG0_2 := Lib.hid (owns_kept G KU (fun _ _ h => h))
  have HGF0 := Lib.hid (show ∀ r, (Value.slice ga0 qs0.length gc0).ownBlock = some r → F r from fun r hr => HB1.out.fg ((⟨qk0, qa0, qs0⟩ : Prt), ((.slice ga0 qs0.length gc0) : Value)) (by simp) r hr)
  have HE0 := Lib.hid (show u2.heap.size ≠ p from Nat.ne_of_gt (Array.getElem?_eq_some_iff.1 T.b.own).1)
  have HB2 := Lib.hid (T.young KU)
  have HK2 := Lib.hid (HK1.out.trans K2)
  skip
  have y00 : v2.cell? ⟨u2.heap.size, 0, none⟩ = some (.int .i64 qk0) := by rw [cell_block HX0_2.out]; rfl
  have y01 : v2.cell? ⟨u2.heap.size, 1, none⟩ = some (.int .i64 qa0) := by rw [cell_block HX0_2.out]; rfl
  have y02 : v2.cell? ⟨u2.heap.size, 2, none⟩ = some (.slice ga0 qs0.length gc0) := by rw [cell_block HX0_2.out]; rfl
  clear T K G KU K2 HC
  obtain ⟨u3, hu3⟩ : ∃ u3, v2.alloc (.cells #[.int .i64 qa0] 3) = u3 := ⟨_, rfl⟩
  have KU : Kept NB v2 u3 := by rw [← hu3]; exact (Kept.refl _ _).alloc _
  have HUX3 := Lib.hid (show u3.heap[v2.heap.size]? = some (.cells #[.int .i64 qa0] 3 (0, 0)) by rw [← hu3]; exact (heap_alloc v2 _).1)
  have HU3 := Lib.hid KU
  clear KU
  go_wp2_with fail
  clear hu
  have HC := Lib.hid (rcloses_any (HB2.out.young HU3.out) (fun r hr => HF.out r (Nat.le_trans HK2.out.size (Nat.le_trans HU3.out.size hr))) [qa0] (.slice (some ⟨v2.heap.size, 0, none⟩) 1 1) (by (try simp); omega) (own_int1 HUX3.out) (by intro g hg; simp at hg; subst hg; have := HHhc0.out; (try simp); omega))
  refine HC.out.mono ?_
  rintro e v3 ⟨rfl, ⟨vc3, T⟩, K⟩
  have K2 : Kept (fun r => r = p) v2 v3 := (HU3.out.mono (fun _ h => h.elim)).trans K
  have HB3 := Lib.hid T
  have HK3 := Lib.hid (HK2.out.trans K2)
  have HX0_3 := Lib.hid (loc_kept K2 HX0_2.out HE0.out)
  have HG0_3 := Lib.hid (gap_kept K2 HG0_2.out HB2.out.b.own)
  clear y00 y01 y02
  have y00 : v3.cell? ⟨u2.heap.size, 0, none⟩ = some (.int .i64 qk0) := by rw [cell_block HX0_3.out]; rfl
  have y01 : v3.cell? ⟨u2.heap.size, 1, none⟩ = some (.int .i64 qa0) := by rw [cell_block HX0_3.out]; rfl
  have y02 : v3.cell? ⟨u2.heap.size, 2, none⟩ = some (.slice ga0 qs0.length gc0) := by rw [cell_block HX0_3.out]; rfl
  clear T K K2 HC
  go_wp2_with fail
  have HC := Lib.hid (rpush_any (HB3.out.young (Kept.refl NB v3)) (fun r hr => HF.out r (Nat.le_trans HK3.out.size (Nat.le_trans (Kept.refl NB v3).size hr))) 0 ((code.length : Int)) [] (.slice none 0 0) (by have := HPS.out; (try simp); omega) own_nil (by simp [Value.ownBlock]))
  refine HC.out.mono ?_
  rintro e v4 ⟨rfl, ⟨vp4, T⟩, K⟩
  have K2 : Kept (fun r => r = p) v3 v4 := ((Kept.refl NB v3).mono (fun _ h => h.elim)).trans K
  have HB4 := Lib.hid T
  have HK4 := Lib.hid (HK3.out.trans K2)
  have HX0_4 := Lib.hid (loc_kept K2 HX0_3.out HE0.out)
  have HG0_4 := Lib.hid (gap_kept K2 HG0_3.out HB3.out.b.own)
  clear y00 y01 y02
  have y00 : v4.cell? ⟨u2.heap.size, 0, none⟩ = some (.int .i64 qk0) := by rw [cell_block HX0_4.out]; rfl
  have y01 : v4.cell? ⟨u2.heap.size, 1, none⟩ = some (.int .i64 qa0) := by rw [cell_block HX0_4.out]; rfl
  have y02 : v4.cell? ⟨u2.heap.size, 2, none⟩ = some (.slice ga0 qs0.length gc0) := by rw [cell_block HX0_4.out]; rfl
  clear T K K2 HC
  go_wp2_with fail
  all_goals (first | go_ret | skip)
  all_goals exact ⟨rfl, ⟨_, _, _, HB4.out, by simp⟩, HK4.out⟩
set_option maxRecDepth 100000 in
set_option maxHeartbeats 4000000 in
theorem rdo_3 {F : Nat → Prop} {w : World} {p : Nat} {vc vp : Value} {code : List I3} (ps : List (Prt × Value)) (qk0 qa0 : Int) (qs0 : List Int) (gv0 : Value) (B : RBld F w p vc vp code (ps ++ [((⟨qk0, qa0, qs0⟩ : Prt), (gv0 : Value))])) (hF : ∀ r, w.heap.size ≤ r → F r) (hlen : code.length ≤ 499) (hpl : (ps ++ [((⟨qk0, qa0, qs0⟩ : Prt), (gv0 : Value))]).length < 33) (hask : asksB 3 ((ps ++ [((⟨qk0, qa0, qs0⟩ : Prt), (gv0 : Value))]).map (·.1)).reverse = true) (hc0 : 0 ≤ qa0 ∧ qa0 < code.length) :
    Calls Try.prog 22 #[.pointer (some ⟨p, 0, none⟩), .int .i64 3] w fun e w' => e = .returned (.int .i64 0) ∧ (∃ vc' vp' ps', RBld F w' p vc' vp' (closeG code [qa0]) ps' ∧ ps'.map (·.1) = ps.map (·.1)) ∧ Kept (fun r => r = p) w w' := by
  have HAS := Lib.hid (show Calls Try.prog 33 #[.pointer (some ⟨p, 0, none⟩), .int .i64 3] w fun e w' => e = .returned (.bool true) ∧ w = w' by have := asks_any B.b (by omega) 3 (by decide) (by decide); rwa [hask] at this)
  have HLA := Lib.hid (show Calls Try.prog 34 #[.int .i64 3] w fun e w' => e = .returned (.int .u8 0) ∧ w = w' from lays_any 3 (by decide) (by decide) w)
  have HOP := Lib.hid (show Calls Try.prog 35 #[.int .i64 3] w fun e w' => e = .returned (.bool false) ∧ w = w' from opens_any 3 (by decide) (by decide) w)
  obtain ⟨ga0, gc0, hgv0, _, hgc0, _⟩ := owns_slice (B.b.gaps ((⟨qk0, qa0, qs0⟩ : Prt), (gv0 : Value)) (by simp))
  dsimp only at hgv0
  subst hgv0
  obtain ⟨a0, c0, hv0, h01, h02, _⟩ := owns_slice B.b.code
  obtain ⟨a1, c1, hv1, h11, h12, _⟩ := owns_slice B.b.parts
  have d0 : w.cell? ⟨p, 0, none⟩ = some (.slice a0 code.length c0) := by rw [cell_block B.b.own, hv0]; rfl
  have d1 : w.cell? ⟨p, 1, none⟩ = some (.slice a1 (ps ++ [((⟨qk0, qa0, qs0⟩ : Prt), ((.slice ga0 qs0.length gc0) : Value))]).length c1) := by rw [cell_block B.b.own, hv1]; rfl
  obtain ⟨np, hnp⟩ : ∃ np, np = (ps ++ [((⟨qk0, qa0, qs0⟩ : Prt), ((.slice ga0 qs0.length gc0) : Value))]).length := ⟨_, rfl⟩
  rw [← hnp] at d1 h11 hpl
  have HNP := Lib.hid hnp
  have HPS := Lib.hid (show ps.length < 98 by simp at hnp; omega)
  have HB0 := Lib.hid B
  have HF := Lib.hid hF
  have HHhc0 := Lib.hid hc0
  clear B hF hnp hv0 hv1 hask hc0
  go_enter Try.func22, Try.ntmps22
  try simp only [List.append]
  go_wp2_with fail
  with_reducible refine HAS.out.mono ?_
  rintro e v0 ⟨rfl, rfl⟩
  go_wp2_with fail
  with_reducible refine HLA.out.mono ?_
  rintro e v0 ⟨rfl, rfl⟩
  go_wp2_with fail
  with_reducible refine HOP.out.mono ?_
  rintro e v0 ⟨rfl, rfl⟩
  go_wp2_with fail
  clear d0 d1 h01 h11
  have HK0 := Lib.hid (Kept.refl (fun r => r = p) w)
  go_wp2_with fail
  have HC := Lib.hid (rpop_any (ps := ps) (q := ((⟨qk0, qa0, qs0⟩ : Prt), ((.slice ga0 qs0.length gc0) : Value))) HB0.out (by have := HPS.out; (try simp); omega))
  dsimp only at HC
  refine HC.out.mono ?_
  rintro e u1 ⟨rfl, ⟨vp1, T⟩, K, G⟩
  obtain ⟨v1, hu⟩ : ∃ v1, u1.alloc (.cells #[.int .i64 qk0, .int .i64 qa0, (.slice ga0 qs0.length gc0)] 80) = v1 := ⟨_, rfl⟩
  have KU : Kept NB u1 v1 := by rw [← hu]; exact (Kept.refl _ _).alloc _
  have K2 : Kept (fun r => r = p) w v1 := K.trans (KU.mono (fun _ h => h.elim))
  have HX0_1 := Lib.hid (show v1.heap[u1.heap.size]? = some (.cells #[.int .i64 qk0, .int .i64 qa0, (.slice ga0 qs0.length gc0)] 80 (0, 0)) by rw [← hu]; exact (heap_alloc u1 _).1)
  have HG0_1 := Lib.hid (owns_kept G KU (fun _ _ h => h))
  have HGF0 := Lib.hid (show ∀ r, (Value.slice ga0 qs0.length gc0).ownBlock = some r → F r from fun r hr => HB0.out.fg ((⟨qk0, qa0, qs0⟩ : Prt), ((.slice ga0 qs0.length gc0) : Value)) (by simp) r hr)
  have HE0 := Lib.hid (show u1.heap.size ≠ p from Nat.ne_of_gt (Array.getElem?_eq_some_iff.1 T.b.own).1)
  have HB1 := Lib.hid (T.young KU)
  have HK1 := Lib.hid (HK0.out.trans K2)
  skip
  have y00 : v1.cell? ⟨u1.heap.size, 0, none⟩ = some (.int .i64 qk0) := by rw [cell_block HX0_1.out]; rfl
  have y01 : v1.cell? ⟨u1.heap.size, 1, none⟩ = some (.int .i64 qa0) := by rw [cell_block HX0_1.out]; rfl
  have y02 : v1.cell? ⟨u1.heap.size, 2, none⟩ = some (.slice ga0 qs0.length gc0) := by rw [cell_block HX0_1.out]; rfl
  clear T K G KU K2 HC
  obtain ⟨u2, hu2⟩ : ∃ u2, v1.alloc (.cells #[.int .i64 qa0] 3) = u2 := ⟨_, rfl⟩
  have KU : Kept NB v1 u2 := by rw [← hu2]; exact (Kept.refl _ _).alloc _
  have HUX2 := Lib.hid (show u2.heap[v1.heap.size]? = some (.cells #[.int .i64 qa0] 3 (0, 0)) by rw [← hu2]; exact (heap_alloc v1 _).1)
  have HU2 := Lib.hid KU
  clear KU
  go_wp2_with fail
  clear hu
  have HC := Lib.hid (rcloses_any (HB1.out.young HU2.out) (fun r hr => HF.out r (Nat.le_trans HK1.out.size (Nat.le_trans HU2.out.size hr))) [qa0] (.slice (some ⟨v1.heap.size, 0, none⟩) 1 1) (by (try simp [setA_length, closeG_length]); omega) (own_int1 HUX2.out) (by intro g hg; simp at hg; subst hg; have := HHhc0.out; (try simp [setA_length, closeG_length]); omega))
  refine HC.out.mono ?_
  rintro e v2 ⟨rfl, ⟨vc2, T⟩, K⟩
  have K2 : Kept (fun r => r = p) v1 v2 := (HU2.out.mono (fun _ h => h.elim)).trans K
  have HB2 := Lib.hid T
  have HK2 := Lib.hid (HK1.out.trans K2)
  have HX0_2 := Lib.hid (loc_kept K2 HX0_1.out HE0.out)
  have HG0_2 := Lib.hid (gap_kept K2 HG0_1.out HB1.out.b.own)
  clear y00 y01 y02
  have y00 : v2.cell? ⟨u1.heap.size, 0, none⟩ = some (.int .i64 qk0) := by rw [cell_block HX0_2.out]; rfl
  have y01 : v2.cell? ⟨u1.heap.size, 1, none⟩ = some (.int .i64 qa0) := by rw [cell_block HX0_2.out]; rfl
  have y02 : v2.cell? ⟨u1.heap.size, 2, none⟩ = some (.slice ga0 qs0.length gc0) := by rw [cell_block HX0_2.out]; rfl
  clear T K K2 HC
  go_wp2_with fail
  all_goals (first | go_ret | skip)
  all_goals exact ⟨rfl, ⟨_, _, _, HB2.out, by simp⟩, HK2.out⟩
set_option maxRecDepth 100000 in
set_option maxHeartbeats 4000000 in
theorem rdo_4 {F : Nat → Prop} {w : World} {p : Nat} {vc vp : Value} {code : List I3} (ps : List (Prt × Value)) (B : RBld F w p vc vp code ps) (hF : ∀ r, w.heap.size ≤ r → F r) (_hlen : code.length ≤ 499) (hpl : ps.length < 32) (hask : asksB 4 (ps.map (·.1)).reverse = true)  :
    Calls Try.prog 22 #[.pointer (some ⟨p, 0, none⟩), .int .i64 4] w fun e w' => e = .returned (.int .i64 0) ∧ (∃ vc' vp' ps', RBld F w' p vc' vp' code ps' ∧ ps'.map (·.1) = ps.map (·.1) ++ [(⟨1, (code.length : Int), []⟩ : Prt)]) ∧ Kept (fun r => r = p) w w' := by
  have HAS := Lib.hid (show Calls Try.prog 33 #[.pointer (some ⟨p, 0, none⟩), .int .i64 4] w fun e w' => e = .returned (.bool true) ∧ w = w' by have := asks_any B.b (by omega) 4 (by decide) (by decide); rwa [hask] at this)
  have HLA := Lib.hid (show Calls Try.prog 34 #[.int .i64 4] w fun e w' => e = .returned (.int .u8 0) ∧ w = w' from lays_any 4 (by decide) (by decide) w)
  have HOP := Lib.hid (show Calls Try.prog 35 #[.int .i64 4] w fun e w' => e = .returned (.bool true) ∧ w = w' from opens_any 4 (by decide) (by decide) w)
  obtain ⟨a0, c0, hv0, h01, h02, _⟩ := owns_slice B.b.code
  obtain ⟨a1, c1, hv1, h11, h12, _⟩ := owns_slice B.b.parts
  have d0 : w.cell? ⟨p, 0, none⟩ = some (.slice a0 code.length c0) := by rw [cell_block B.b.own, hv0]; rfl
  have d1 : w.cell? ⟨p, 1, none⟩ = some (.slice a1 ps.length c1) := by rw [cell_block B.b.own, hv1]; rfl
  obtain ⟨np, hnp⟩ : ∃ np, np = ps.length := ⟨_, rfl⟩
  rw [← hnp] at d1 h11 hpl
  have HNP := Lib.hid hnp
  have HPS := Lib.hid (show ps.length < 98 by omega)
  have HB0 := Lib.hid B
  have HF := Lib.hid hF
  clear B hF hnp hv0 hv1 hask 
  go_enter Try.func22, Try.ntmps22
  try simp only [List.append]
  go_wp2_with fail
  with_reducible refine HAS.out.mono ?_
  rintro e v0 ⟨rfl, rfl⟩
  go_wp2_with fail
  with_reducible refine HLA.out.mono ?_
  rintro e v0 ⟨rfl, rfl⟩
  go_wp2_with fail
  with_reducible refine HOP.out.mono ?_
  rintro e v0 ⟨rfl, rfl⟩
  go_wp2_with fail
  clear d0 d1 h01 h11
  have HK0 := Lib.hid (Kept.refl (fun r => r = p) w)
  go_wp2_with fail
  have HC := Lib.hid (rpush_any (HB0.out.young (Kept.refl NB w)) (fun r hr => HF.out r (Nat.le_trans HK0.out.size (Nat.le_trans (Kept.refl NB w).size hr))) 1 ((code.length : Int)) [] (.slice none 0 0) (by have := HPS.out; (try simp); omega) own_nil (by simp [Value.ownBlock]))
  refine HC.out.mono ?_
  rintro e v1 ⟨rfl, ⟨vp1, T⟩, K⟩
  have K2 : Kept (fun r => r = p) w v1 := ((Kept.refl NB w).mono (fun _ h => h.elim)).trans K
  have HB1 := Lib.hid T
  have HK1 := Lib.hid (HK0.out.trans K2)
  clear T K K2 HC
  go_wp2_with fail
  all_goals (first | go_ret | skip)
  all_goals exact ⟨rfl, ⟨_, _, _, HB1.out, by simp⟩, HK1.out⟩
set_option maxRecDepth 100000 in
set_option maxHeartbeats 4000000 in
theorem rdo_5 {F : Nat → Prop} {w : World} {p : Nat} {vc vp : Value} {code : List I3} (ps : List (Prt × Value)) (qk0 qa0 : Int) (qs0 : List Int) (gv0 : Value) (B : RBld F w p vc vp code (ps ++ [((⟨qk0, qa0, qs0⟩ : Prt), (gv0 : Value))])) (hF : ∀ r, w.heap.size ≤ r → F r) (hlen : code.length < 499) (hpl : (ps ++ [((⟨qk0, qa0, qs0⟩ : Prt), (gv0 : Value))]).length < 32) (hask : asksB 5 ((ps ++ [((⟨qk0, qa0, qs0⟩ : Prt), (gv0 : Value))]).map (·.1)).reverse = true)  :
    Calls Try.prog 22 #[.pointer (some ⟨p, 0, none⟩), .int .i64 5] w fun e w' => e = .returned (.int .i64 0) ∧ (∃ vc' vp' ps', RBld F w' p vc' vp' (code ++ [(4, 0, 0)]) ps' ∧ ps'.map (·.1) = ps.map (·.1) ++ [(⟨0, (code.length : Int), []⟩ : Prt)] ++ [(⟨qk0, qa0, qs0⟩ : Prt)]) ∧ Kept (fun r => r = p) w w' := by
  have HAS := Lib.hid (show Calls Try.prog 33 #[.pointer (some ⟨p, 0, none⟩), .int .i64 5] w fun e w' => e = .returned (.bool true) ∧ w = w' by have := asks_any B.b (by omega) 5 (by decide) (by decide); rwa [hask] at this)
  have HLA := Lib.hid (show Calls Try.prog 34 #[.int .i64 5] w fun e w' => e = .returned (.int .u8 4) ∧ w = w' from lays_any 5 (by decide) (by decide) w)
  have HOP := Lib.hid (show Calls Try.prog 35 #[.int .i64 5] w fun e w' => e = .returned (.bool true) ∧ w = w' from opens_any 5 (by decide) (by decide) w)
  obtain ⟨ga0, gc0, hgv0, _, hgc0, _⟩ := owns_slice (B.b.gaps ((⟨qk0, qa0, qs0⟩ : Prt), (gv0 : Value)) (by simp))
  dsimp only at hgv0
  subst hgv0
  obtain ⟨a0, c0, hv0, h01, h02, _⟩ := owns_slice B.b.code
  obtain ⟨a1, c1, hv1, h11, h12, _⟩ := owns_slice B.b.parts
  have d0 : w.cell? ⟨p, 0, none⟩ = some (.slice a0 code.length c0) := by rw [cell_block B.b.own, hv0]; rfl
  have d1 : w.cell? ⟨p, 1, none⟩ = some (.slice a1 (ps ++ [((⟨qk0, qa0, qs0⟩ : Prt), ((.slice ga0 qs0.length gc0) : Value))]).length c1) := by rw [cell_block B.b.own, hv1]; rfl
  obtain ⟨np, hnp⟩ : ∃ np, np = (ps ++ [((⟨qk0, qa0, qs0⟩ : Prt), ((.slice ga0 qs0.length gc0) : Value))]).length := ⟨_, rfl⟩
  rw [← hnp] at d1 h11 hpl
  have HNP := Lib.hid hnp
  have HPS := Lib.hid (show ps.length < 98 by simp at hnp; omega)
  have HB0 := Lib.hid B
  have HF := Lib.hid hF
  clear B hF hnp hv0 hv1 hask 
  go_enter Try.func22, Try.ntmps22
  try simp only [List.append]
  go_wp2_with fail
  with_reducible refine HAS.out.mono ?_
  rintro e v0 ⟨rfl, rfl⟩
  go_wp2_with fail
  with_reducible refine HLA.out.mono ?_
  rintro e v0 ⟨rfl, rfl⟩
  go_wp2_with fail
  with_reducible refine HOP.out.mono ?_
  rintro e v0 ⟨rfl, rfl⟩
  go_wp2_with fail
  clear d0 d1 h01 h11
  have HK0 := Lib.hid (Kept.refl (fun r => r = p) w)
  have HC := Lib.hid (rput_room HB0.out HF.out (4, 0, 0) (by omega))
  unfold insC at HC
  refine HC.out.mono ?_
  rintro e v1 ⟨rfl, ⟨vc1, T, TN⟩, K⟩
  have HB1 := Lib.hid T
  have HK1 := Lib.hid K
  have HTN := Lib.hid TN
  clear T K HC TN
  go_wp2_with fail
  have HC := Lib.hid (rpop_any (ps := ps) (q := ((⟨qk0, qa0, qs0⟩ : Prt), ((.slice ga0 qs0.length gc0) : Value))) HB1.out (by have := HPS.out; (try simp); omega))
  dsimp only at HC
  refine HC.out.mono ?_
  rintro e u2 ⟨rfl, ⟨vp2, T⟩, K, G⟩
  obtain ⟨v2, hu⟩ : ∃ v2, u2.alloc (.cells #[.int .i64 qk0, .int .i64 qa0, (.slice ga0 qs0.length gc0)] 80) = v2 := ⟨_, rfl⟩
  have KU : Kept NB u2 v2 := by rw [← hu]; exact (Kept.refl _ _).alloc _
  have K2 : Kept (fun r => r = p) v1 v2 := K.trans (KU.mono (fun _ h => h.elim))
  have HX0_2 := Lib.hid (show v2.heap[u2.heap.size]? = some (.cells #[.int .i64 qk0, .int .i64 qa0, (.slice ga0 qs0.length gc0)] 80 (0, 0)) by rw [← hu]; exact (heap_alloc u2 _).1)
  have HG0_2 := Lib.hid (owns_kept G KU (fun _ _ h => h))
  have HGF0 := Lib.hid (show ∀ r, (Value.slice ga0 qs0.length gc0).ownBlock = some r → F r from fun r hr => HB1.out.fg ((⟨qk0, qa0, qs0⟩ : Prt), ((.slice ga0 qs0.length gc0) : Value)) (by simp) r hr)
  have HE0 := Lib.hid (show u2.heap.size ≠ p from Nat.ne_of_gt (Array.getElem?_eq_some_iff.1 T.b.own).1)
  have HB2 := Lib.hid (T.young KU)
  have HK2 := Lib.hid (HK1.out.trans K2)
  skip
  have y00 : v2.cell? ⟨u2.heap.size, 0, none⟩ = some (.int .i64 qk0) := by rw [cell_block HX0_2.out]; rfl
  have y01 : v2.cell? ⟨u2.heap.size, 1, none⟩ = some (.int .i64 qa0) := by rw [cell_block HX0_2.out]; rfl
  have y02 : v2.cell? ⟨u2.heap.size, 2, none⟩ = some (.slice ga0 qs0.length gc0) := by rw [cell_block HX0_2.out]; rfl
  clear T K G KU K2 HC
  go_wp2_with fail
  clear hu
  have HC := Lib.hid (rpush_any (HB2.out.young (Kept.refl NB v2)) (fun r hr => HF.out r (Nat.le_trans HK2.out.size (Nat.le_trans (Kept.refl NB v2).size hr))) 0 ((code.length : Int)) [] (.slice none 0 0) (by have := HPS.out; (try simp); omega) own_nil (by simp [Value.ownBlock]))
  refine HC.out.mono ?_
  rintro e v3 ⟨rfl, ⟨vp3, T⟩, K⟩
  have K2 : Kept (fun r => r = p) v2 v3 := ((Kept.refl NB v2).mono (fun _ h => h.elim)).trans K
  have HB3 := Lib.hid T
  have HK3 := Lib.hid (HK2.out.trans K2)
  have HX0_3 := Lib.hid (loc_kept K2 HX0_2.out HE0.out)
  have HG0_3 := Lib.hid (gap_kept K2 HG0_2.out HB2.out.b.own)
  clear y00 y01 y02
  have y00 : v3.cell? ⟨u2.heap.size, 0, none⟩ = some (.int .i64 qk0) := by rw [cell_block HX0_3.out]; rfl
  have y01 : v3.cell? ⟨u2.heap.size, 1, none⟩ = some (.int .i64 qa0) := by rw [cell_block HX0_3.out]; rfl
  have y02 : v3.cell? ⟨u2.heap.size, 2, none⟩ = some (.slice ga0 qs0.length gc0) := by rw [cell_block HX0_3.out]; rfl
  clear T K K2 HC
  go_wp2_with fail
  have HC := Lib.hid (rpush_any (HB3.out.young (Kept.refl NB v3)) (fun r hr => HF.out r (Nat.le_trans HK3.out.size (Nat.le_trans (Kept.refl NB v3).size hr))) qk0 (qa0) qs0 (.slice ga0 qs0.length gc0) (by have := HPS.out; (try simp); omega) HG0_3.out HGF0.out)
  refine HC.out.mono ?_
  rintro e v4 ⟨rfl, ⟨vp4, T⟩, K⟩
  have K2 : Kept (fun r => r = p) v3 v4 := ((Kept.refl NB v3).mono (fun _ h => h.elim)).trans K
  have HB4 := Lib.hid T
  have HK4 := Lib.hid (HK3.out.trans K2)
  have HX0_4 := Lib.hid (loc_kept K2 HX0_3.out HE0.out)
  have HG0_4 := Lib.hid (gap_kept K2 HG0_3.out HB3.out.b.own)
  clear y00 y01 y02
  have y00 : v4.cell? ⟨u2.heap.size, 0, none⟩ = some (.int .i64 qk0) := by rw [cell_block HX0_4.out]; rfl
  have y01 : v4.cell? ⟨u2.heap.size, 1, none⟩ = some (.int .i64 qa0) := by rw [cell_block HX0_4.out]; rfl
  have y02 : v4.cell? ⟨u2.heap.size, 2, none⟩ = some (.slice ga0 qs0.length gc0) := by rw [cell_block HX0_4.out]; rfl
  clear T K K2 HC
  go_wp2_with fail
  all_goals (first | go_ret | skip)
  all_goals exact ⟨rfl, ⟨_, _, _, HB4.out, by simp⟩, HK4.out⟩
set_option maxRecDepth 100000 in
set_option maxHeartbeats 4000000 in
theorem rdo_6 {F : Nat → Prop} {w : World} {p : Nat} {vc vp : Value} {code : List I3} (ps : List (Prt × Value)) (qk0 qa0 : Int) (qs0 : List Int) (gv0 : Value) (qk1 qa1 : Int) (qs1 : List Int) (gv1 : Value) (B : RBld F w p vc vp code ((ps ++ [((⟨qk1, qa1, qs1⟩ : Prt), (gv1 : Value))]) ++ [((⟨qk0, qa0, qs0⟩ : Prt), (gv0 : Value))])) (hF : ∀ r, w.heap.size ≤ r → F r) (hlen : code.length < 499) (hpl : ((ps ++ [((⟨qk1, qa1, qs1⟩ : Prt), (gv1 : Value))]) ++ [((⟨qk0, qa0, qs0⟩ : Prt), (gv0 : Value))]).length < 33) (hask : asksB 6 (((ps ++ [((⟨qk1, qa1, qs1⟩ : Prt), (gv1 : Value))]) ++ [((⟨qk0, qa0, qs0⟩ : Prt), (gv0 : Value))]).map (·.1)).reverse = true) (hc1 : 0 ≤ qa1 ∧ qa1 < code.length) :
    Calls Try.prog 22 #[.pointer (some ⟨p, 0, none⟩), .int .i64 6] w fun e w' => e = .returned (.int .i64 0) ∧ (∃ vc' vp' ps', RBld F w' p vc' vp' (closeG (setA (code ++ [(3, 0, 0)]) code.length qa0) [qa1]) ps' ∧ ps'.map (·.1) = ps.map (·.1)) ∧ Kept (fun r => r = p) w w' := by
  have HAS := Lib.hid (show Calls Try.prog 33 #[.pointer (some ⟨p, 0, none⟩), .int .i64 6] w fun e w' => e = .returned (.bool true) ∧ w = w' by have := asks_any B.b (by omega) 6 (by decide) (by decide); rwa [hask] at this)
  have HLA := Lib.hid (show Calls Try.prog 34 #[.int .i64 6] w fun e w' => e = .returned (.int .u8 3) ∧ w = w' from lays_any 6 (by decide) (by decide) w)
  have HOP := Lib.hid (show Calls Try.prog 35 #[.int .i64 6] w fun e w' => e = .returned (.bool false) ∧ w = w' from opens_any 6 (by decide) (by decide) w)
  obtain ⟨ga0, gc0, hgv0, _, hgc0, _⟩ := owns_slice (B.b.gaps ((⟨qk0, qa0, qs0⟩ : Prt), (gv0 : Value)) (by simp))
  dsimp only at hgv0
  subst hgv0
  obtain ⟨ga1, gc1, hgv1, _, hgc1, _⟩ := owns_slice (B.b.gaps ((⟨qk1, qa1, qs1⟩ : Prt), (gv1 : Value)) (by simp))
  dsimp only at hgv1
  subst hgv1
  obtain ⟨a0, c0, hv0, h01, h02, _⟩ := owns_slice B.b.code
  obtain ⟨a1, c1, hv1, h11, h12, _⟩ := owns_slice B.b.parts
  have d0 : w.cell? ⟨p, 0, none⟩ = some (.slice a0 code.length c0) := by rw [cell_block B.b.own, hv0]; rfl
  have d1 : w.cell? ⟨p, 1, none⟩ = some (.slice a1 ((ps ++ [((⟨qk1, qa1, qs1⟩ : Prt), ((.slice ga1 qs1.length gc1) : Value))]) ++ [((⟨qk0, qa0, qs0⟩ : Prt), ((.slice ga0 qs0.length gc0) : Value))]).length c1) := by rw [cell_block B.b.own, hv1]; rfl
  obtain ⟨np, hnp⟩ : ∃ np, np = ((ps ++ [((⟨qk1, qa1, qs1⟩ : Prt), ((.slice ga1 qs1.length gc1) : Value))]) ++ [((⟨qk0, qa0, qs0⟩ : Prt), ((.slice ga0 qs0.length gc0) : Value))]).length := ⟨_, rfl⟩
  rw [← hnp] at d1 h11 hpl
  have HNP := Lib.hid hnp
  have HPS := Lib.hid (show ps.length < 98 by simp at hnp; omega)
  have HB0 := Lib.hid B
  have HF := Lib.hid hF
  have HHhc1 := Lib.hid hc1
  clear B hF hnp hv0 hv1 hask hc1
  go_enter Try.func22, Try.ntmps22
  try simp only [List.append]
  go_wp2_with fail
  with_reducible refine HAS.out.mono ?_
  rintro e v0 ⟨rfl, rfl⟩
  go_wp2_with fail
  with_reducible refine HLA.out.mono ?_
  rintro e v0 ⟨rfl, rfl⟩
  go_wp2_with fail
  with_reducible refine HOP.out.mono ?_
  rintro e v0 ⟨rfl, rfl⟩
  go_wp2_with fail
  clear d0 d1 h01 h11
  have HK0 := Lib.hid (Kept.refl (fun r => r = p) w)
  have HC := Lib.hid (rput_room HB0.out HF.out (3, 0, 0) (by omega))
  unfold insC at HC
  refine HC.out.mono ?_
  rintro e v1 ⟨rfl, ⟨vc1, T, TN⟩, K⟩
  have HB1 := Lib.hid T
  have HK1 := Lib.hid K
  have HTN := Lib.hid TN
  clear T K HC TN
  go_wp2_with fail
  have HC := Lib.hid (rpop_any (ps := (ps ++ [((⟨qk1, qa1, qs1⟩ : Prt), ((.slice ga1 qs1.length gc1) : Value))])) (q := ((⟨qk0, qa0, qs0⟩ : Prt), ((.slice ga0 qs0.length gc0) : Value))) HB1.out (by have := HPS.out; (try simp); omega))
  dsimp only at HC
  refine HC.out.mono ?_
  rintro e u2 ⟨rfl, ⟨vp2, T⟩, K, G⟩
  obtain ⟨v2, hu⟩ : ∃ v2, u2.alloc (.cells #[.int .i64 qk0, .int .i64 qa0, (.slice ga0 qs0.length gc0)] 80) = v2 := ⟨_, rfl⟩
  have KU : Kept NB u2 v2 := by rw [← hu]; exact (Kept.refl _ _).alloc _
  have K2 : Kept (fun r => r = p) v1 v2 := K.trans (KU.mono (fun _ h => h.elim))
  have HX0_2 := Lib.hid (show v2.heap[u2.heap.size]? = some (.cells #[.int .i64 qk0, .int .i64 qa0, (.slice ga0 qs0.length gc0)] 80 (0, 0)) by rw [← hu]; exact (heap_alloc u2 _).1)
  have HG0_2 := Lib.hid (owns_kept G KU (fun _ _ h => h))
  have HGF0 := Lib.hid (show ∀ r, (Value.slice ga0 qs0.length gc0).ownBlock = some r → F r from fun r hr => HB1.out.fg ((⟨qk0, qa0, qs0⟩ : Prt), ((.slice ga0 qs0.length gc0) : Value)) (by simp) r hr)
  have HE0 := Lib.hid (show u2.heap.size ≠ p from Nat.ne_of_gt (Array.getElem?_eq_some_iff.1 T.b.own).1)
  have HB2 := Lib.hid (T.young KU)
  have HK2 := Lib.hid (HK1.out.trans K2)
  skip
  have y00 : v2.cell? ⟨u2.heap.size, 0, none⟩ = some (.int .i64 qk0) := by rw [cell_block HX0_2.out]; rfl
  have y01 : v2.cell? ⟨u2.heap.size, 1, none⟩ = some (.int .i64 qa0) := by rw [cell_block HX0_2.out]; rfl
  have y02 : v2.cell? ⟨u2.heap.size, 2, none⟩ = some (.slice ga0 qs0.length gc0) := by rw [cell_block HX0_2.out]; rfl
  clear T K G KU K2 HC
  go_wp2_with fail
  clear hu
  have HC := Lib.hid (rpop_any (ps := ps) (q := ((⟨qk1, qa1, qs1⟩ : Prt), ((.slice ga1 qs1.length gc1) : Value))) HB2.out (by have := HPS.out; (try simp); omega))
  dsimp only at HC
  refine HC.out.mono ?_
  rintro e u3 ⟨rfl, ⟨vp3, T⟩, K, G⟩
  obtain ⟨v3, hu⟩ : ∃ v3, u3.alloc (.cells #[.int .i64 qk1, .int .i64 qa1, (.slice ga1 qs1.length gc1)] 80) = v3 := ⟨_, rfl⟩
  have KU : Kept NB u3 v3 := by rw [← hu]; exact (Kept.refl _ _).alloc _
  have K2 : Kept (fun r => r = p) v2 v3 := K.trans (KU.mono (fun _ h => h.elim))
  have HX1_3 := Lib.hid (show v3.heap[u3.heap.size]? = some (.cells #[.int .i64 qk1, .int .i64 qa1, (.slice ga1 qs1.length gc1)] 80 (0, 0)) by rw [← hu]; exact (heap_alloc u3 _).1)
  have HG1_3 := Lib.hid (owns_kept G KU (fun _ _ h => h))
  have HGF1 := Lib.hid (show ∀ r, (Value.slice ga1 qs1.length gc1).ownBlock = some r → F r from fun r hr => HB2.out.fg ((⟨qk1, qa1, qs1⟩ : Prt), ((.slice ga1 qs1.length gc1) : Value)) (by simp) r hr)
  have HE1 := Lib.hid (show u3.heap.size ≠ p from Nat.ne_of_gt (Array.getElem?_eq_some_iff.1 T.b.own).1)
  have HB3 := Lib.hid (T.young KU)
  have HK3 := Lib.hid (HK2.out.trans K2)
  have HX0_3 := Lib.hid (loc_kept K2 HX0_2.out HE0.out)
  have HG0_3 := Lib.hid (gap_kept K2 HG0_2.out HB2.out.b.own)
  clear y00 y01 y02
  have y00 : v3.cell? ⟨u2.heap.size, 0, none⟩ = some (.int .i64 qk0) := by rw [cell_block HX0_3.out]; rfl
  have y01 : v3.cell? ⟨u2.heap.size, 1, none⟩ = some (.int .i64 qa0) := by rw [cell_block HX0_3.out]; rfl
  have y02 : v3.cell? ⟨u2.heap.size, 2, none⟩ = some (.slice ga0 qs0.length gc0) := by rw [cell_block HX0_3.out]; rfl
  skip
  have y10 : v3.cell? ⟨u3.heap.size, 0, none⟩ = some (.int .i64 qk1) := by rw [cell_block HX1_3.out]; rfl
  have y11 : v3.cell? ⟨u3.heap.size, 1, none⟩ = some (.int .i64 qa1) := by rw [cell_block HX1_3.out]; rfl
  have y12 : v3.cell? ⟨u3.heap.size, 2, none⟩ = some (.slice ga1 qs1.length gc1) := by rw [cell_block HX1_3.out]; rfl
  clear T K G KU K2 HC
  go_wp2_with fail
  clear hu
  have hlk : (code ++ [(3, 0, 0)]).length = code.length + 1 := by simp
  obtain ⟨cb, cc, ca, hcv, k1, k2, hcp⟩ := HB3.out.cellA code.length (by omega)
  have hcn := HTN.out cb (by rw [hcv]; rfl)
  subst hcv
  have z0 : v3.cell? ⟨p, 0, none⟩ = some (.slice (some ⟨cb, 0, none⟩) (code.length + 1) cc) := by rw [cell_block HB3.out.b.own, hlk]; rfl
  have b1 : (0 : Int) ≤ (code.length : Int) := by omega
  have b2 : (code.length : Int) < (code.length : Int) + 1 := by omega
  have b3 : ((code.length : Int)).toNat = code.length := by omega
  have HM := Lib.hid (HB3.out.young ((Kept.refl NB v3).drew))
  have HCN := Lib.hid hcn
  have HCP := Lib.hid hcp
  clear hlk hcn hcp
  go_still_tail 9, (by kernel_rfl)
  change wpList _ _ _ _ _ v3.drew
  have k3 : v3.drew.cell? ⟨cb, code.length * 3 + 1, none⟩ = some (.int .i64 ca) := k1
  have k4 : v3.drew.frozen? ⟨cb, code.length * 3 + 1, none⟩ = false := k2
  obtain ⟨v4, hu⟩ : ∃ v4, v3.drew.setCell ⟨cb, code.length * 3 + 1, none⟩ (.int .i64 qa0) = v4 := ⟨_, rfl⟩
  have HB4 := Lib.hid (show RBld F v4 p _ vp3 (setA (code ++ [(3, 0, 0)]) code.length qa0) ps by rw [← hu]; exact HM.out.setAt code.length (by simp) qa0)
  have HK4 := Lib.hid (show Kept (fun r => r = p) w v4 by rw [← hu]; exact HK3.out.drew.setCell (q := ⟨cb, code.length * 3 + 1, none⟩) (.inr HCN.out) _)
  have HCO := Lib.hid (show v3.heap[cb]? = _ from (owns_block HB3.out.b.code rfl).choose_spec)
  have HX0_4 := Lib.hid (show v4.heap[u2.heap.size]? = some (.cells #[.int .i64 qk0, .int .i64 qa0, (.slice ga0 qs0.length gc0)] 80 (0, 0)) by
    rw [← hu]; exact (Below.heap_setCell v3.drew ⟨cb, code.length * 3 + 1, none⟩ _ _ (blk_ne HX0_3.out HCO.out (by decide))).trans HX0_3.out)
  have HG0_4 := Lib.hid (show v4.ownsRow 0 3 1 (.slice ga0 qs0.length gc0) qs0.length (qs0.map intV) by
    rw [← hu]; exact owns_off (q := ⟨cb, code.length * 3 + 1, none⟩) (show v3.drew.ownsRow 0 3 1 _ _ _ from HG0_3.out) (fun h => owns_ne HG0_3.out HCO.out (by decide) h) _)
  clear y00 y01 y02
  have y00 : v4.cell? ⟨u2.heap.size, 0, none⟩ = some (.int .i64 qk0) := by rw [cell_block HX0_4.out]; rfl
  have y01 : v4.cell? ⟨u2.heap.size, 1, none⟩ = some (.int .i64 qa0) := by rw [cell_block HX0_4.out]; rfl
  have y02 : v4.cell? ⟨u2.heap.size, 2, none⟩ = some (.slice ga0 qs0.length gc0) := by rw [cell_block HX0_4.out]; rfl
  have HX1_4 := Lib.hid (show v4.heap[u3.heap.size]? = some (.cells #[.int .i64 qk1, .int .i64 qa1, (.slice ga1 qs1.length gc1)] 80 (0, 0)) by
    rw [← hu]; exact (Below.heap_setCell v3.drew ⟨cb, code.length * 3 + 1, none⟩ _ _ (blk_ne HX1_3.out HCO.out (by decide))).trans HX1_3.out)
  have HG1_4 := Lib.hid (show v4.ownsRow 0 3 1 (.slice ga1 qs1.length gc1) qs1.length (qs1.map intV) by
    rw [← hu]; exact owns_off (q := ⟨cb, code.length * 3 + 1, none⟩) (show v3.drew.ownsRow 0 3 1 _ _ _ from HG1_3.out) (fun h => owns_ne HG1_3.out HCO.out (by decide) h) _)
  clear y10 y11 y12
  have y10 : v4.cell? ⟨u3.heap.size, 0, none⟩ = some (.int .i64 qk1) := by rw [cell_block HX1_4.out]; rfl
  have y11 : v4.cell? ⟨u3.heap.size, 1, none⟩ = some (.int .i64 qa1) := by rw [cell_block HX1_4.out]; rfl
  have y12 : v4.cell? ⟨u3.heap.size, 2, none⟩ = some (.slice ga1 qs1.length gc1) := by rw [cell_block HX1_4.out]; rfl
  clear b1 b2 b3 k1 k2 z0
  obtain ⟨u5, hu5⟩ : ∃ u5, v4.alloc (.cells #[.int .i64 qa1] 3) = u5 := ⟨_, rfl⟩
  have KU : Kept NB v4 u5 := by rw [← hu5]; exact (Kept.refl _ _).alloc _
  have HUX5 := Lib.hid (show u5.heap[v4.heap.size]? = some (.cells #[.int .i64 qa1] 3 (0, 0)) by rw [← hu5]; exact (heap_alloc v4 _).1)
  have HU5 := Lib.hid KU
  clear KU
  go_wp2_with fail
  clear k3 k4 hu
  have HC := Lib.hid (rcloses_any (HB4.out.young HU5.out) (fun r hr => HF.out r (Nat.le_trans HK4.out.size (Nat.le_trans HU5.out.size hr))) [qa1] (.slice (some ⟨v4.heap.size, 0, none⟩) 1 1) (by (try simp [setA_length]); omega) (own_int1 HUX5.out) (by intro g hg; simp at hg; subst hg; have := HHhc1.out; (try simp [setA_length]); omega))
  refine HC.out.mono ?_
  rintro e v5 ⟨rfl, ⟨vc5, T⟩, K⟩
  have K2 : Kept (fun r => r = p) v4 v5 := (HU5.out.mono (fun _ h => h.elim)).trans K
  have HB5 := Lib.hid T
  have HK5 := Lib.hid (HK4.out.trans K2)
  have HX0_5 := Lib.hid (loc_kept K2 HX0_4.out HE0.out)
  have HG0_5 := Lib.hid (gap_kept K2 HG0_4.out HB4.out.b.own)
  clear y00 y01 y02
  have y00 : v5.cell? ⟨u2.heap.size, 0, none⟩ = some (.int .i64 qk0) := by rw [cell_block HX0_5.out]; rfl
  have y01 : v5.cell? ⟨u2.heap.size, 1, none⟩ = some (.int .i64 qa0) := by rw [cell_block HX0_5.out]; rfl
  have y02 : v5.cell? ⟨u2.heap.size, 2, none⟩ = some (.slice ga0 qs0.length gc0) := by rw [cell_block HX0_5.out]; rfl
  have HX1_5 := Lib.hid (loc_kept K2 HX1_4.out HE1.out)
  have HG1_5 := Lib.hid (gap_kept K2 HG1_4.out HB4.out.b.own)
  clear y10 y11 y12
  have y10 : v5.cell? ⟨u3.heap.size, 0, none⟩ = some (.int .i64 qk1) := by rw [cell_block HX1_5.out]; rfl
  have y11 : v5.cell? ⟨u3.heap.size, 1, none⟩ = some (.int .i64 qa1) := by rw [cell_block HX1_5.out]; rfl
  have y12 : v5.cell? ⟨u3.heap.size, 2, none⟩ = some (.slice ga1 qs1.length gc1) := by rw [cell_block HX1_5.out]; rfl
  clear T K K2 HC
  go_wp2_with fail
  all_goals (first | go_ret | skip)
  all_goals exact ⟨rfl, ⟨_, _, _, HB5.out, by simp⟩, HK5.out⟩
set_option maxRecDepth 100000 in
set_option maxHeartbeats 4000000 in
theorem rdo_7 {F : Nat → Prop} {w : World} {p : Nat} {vc vp : Value} {code : List I3} (ps : List (Prt × Value)) (qk0 qa0 : Int) (qs0 : List Int) (gv0 : Value) (B : RBld F w p vc vp code (ps ++ [((⟨qk0, qa0, qs0⟩ : Prt), (gv0 : Value))])) (hF : ∀ r, w.heap.size ≤ r → F r) (hlen : code.length < 499) (hpl : (ps ++ [((⟨qk0, qa0, qs0⟩ : Prt), (gv0 : Value))]).length < 33) (hask : asksB 7 ((ps ++ [((⟨qk0, qa0, qs0⟩ : Prt), (gv0 : Value))]).map (·.1)).reverse = true)  :
    Calls Try.prog 22 #[.pointer (some ⟨p, 0, none⟩), .int .i64 7] w fun e w' => e = .returned (.int .i64 0) ∧ (∃ vc' vp' ps', RBld F w' p vc' vp' (setA (code ++ [(4, 0, 0)]) code.length qa0) ps' ∧ ps'.map (·.1) = ps.map (·.1)) ∧ Kept (fun r => r = p) w w' := by
  have HAS := Lib.hid (show Calls Try.prog 33 #[.pointer (some ⟨p, 0, none⟩), .int .i64 7] w fun e w' => e = .returned (.bool true) ∧ w = w' by have := asks_any B.b (by omega) 7 (by decide) (by decide); rwa [hask] at this)
  have HLA := Lib.hid (show Calls Try.prog 34 #[.int .i64 7] w fun e w' => e = .returned (.int .u8 4) ∧ w = w' from lays_any 7 (by decide) (by decide) w)
  have HOP := Lib.hid (show Calls Try.prog 35 #[.int .i64 7] w fun e w' => e = .returned (.bool false) ∧ w = w' from opens_any 7 (by decide) (by decide) w)
  obtain ⟨ga0, gc0, hgv0, _, hgc0, _⟩ := owns_slice (B.b.gaps ((⟨qk0, qa0, qs0⟩ : Prt), (gv0 : Value)) (by simp))
  dsimp only at hgv0
  subst hgv0
  obtain ⟨a0, c0, hv0, h01, h02, _⟩ := owns_slice B.b.code
  obtain ⟨a1, c1, hv1, h11, h12, _⟩ := owns_slice B.b.parts
  have d0 : w.cell? ⟨p, 0, none⟩ = some (.slice a0 code.length c0) := by rw [cell_block B.b.own, hv0]; rfl
  have d1 : w.cell? ⟨p, 1, none⟩ = some (.slice a1 (ps ++ [((⟨qk0, qa0, qs0⟩ : Prt), ((.slice ga0 qs0.length gc0) : Value))]).length c1) := by rw [cell_block B.b.own, hv1]; rfl
  obtain ⟨np, hnp⟩ : ∃ np, np = (ps ++ [((⟨qk0, qa0, qs0⟩ : Prt), ((.slice ga0 qs0.length gc0) : Value))]).length := ⟨_, rfl⟩
  rw [← hnp] at d1 h11 hpl
  have HNP := Lib.hid hnp
  have HPS := Lib.hid (show ps.length < 98 by simp at hnp; omega)
  have HB0 := Lib.hid B
  have HF := Lib.hid hF
  clear B hF hnp hv0 hv1 hask 
  go_enter Try.func22, Try.ntmps22
  try simp only [List.append]
  go_wp2_with fail
  with_reducible refine HAS.out.mono ?_
  rintro e v0 ⟨rfl, rfl⟩
  go_wp2_with fail
  with_reducible refine HLA.out.mono ?_
  rintro e v0 ⟨rfl, rfl⟩
  go_wp2_with fail
  with_reducible refine HOP.out.mono ?_
  rintro e v0 ⟨rfl, rfl⟩
  go_wp2_with fail
  clear d0 d1 h01 h11
  have HK0 := Lib.hid (Kept.refl (fun r => r = p) w)
  have HC := Lib.hid (rput_room HB0.out HF.out (4, 0, 0) (by omega))
  unfold insC at HC
  refine HC.out.mono ?_
  rintro e v1 ⟨rfl, ⟨vc1, T, TN⟩, K⟩
  have HB1 := Lib.hid T
  have HK1 := Lib.hid K
  have HTN := Lib.hid TN
  clear T K HC TN
  go_wp2_with fail
  have HC := Lib.hid (rpop_any (ps := ps) (q := ((⟨qk0, qa0, qs0⟩ : Prt), ((.slice ga0 qs0.length gc0) : Value))) HB1.out (by have := HPS.out; (try simp); omega))
  dsimp only at HC
  refine HC.out.mono ?_
  rintro e u2 ⟨rfl, ⟨vp2, T⟩, K, G⟩
  obtain ⟨v2, hu⟩ : ∃ v2, u2.alloc (.cells #[.int .i64 qk0, .int .i64 qa0, (.slice ga0 qs0.length gc0)] 80) = v2 := ⟨_, rfl⟩
  have KU : Kept NB u2 v2 := by rw [← hu]; exact (Kept.refl _ _).alloc _
  have K2 : Kept (fun r => r = p) v1 v2 := K.trans (KU.mono (fun _ h => h.elim))
  have HX0_2 := Lib.hid (show v2.heap[u2.heap.size]? = some (.cells #[.int .i64 qk0, .int .i64 qa0, (.slice ga0 qs0.length gc0)] 80 (0, 0)) by rw [← hu]; exact (heap_alloc u2 _).1)
  have HG0_2 := Lib.hid (owns_kept G KU (fun _ _ h => h))
  have HGF0 := Lib.hid (show ∀ r, (Value.slice ga0 qs0.length gc0).ownBlock = some r → F r from fun r hr => HB1.out.fg ((⟨qk0, qa0, qs0⟩ : Prt), ((.slice ga0 qs0.length gc0) : Value)) (by simp) r hr)
  have HE0 := Lib.hid (show u2.heap.size ≠ p from Nat.ne_of_gt (Array.getElem?_eq_some_iff.1 T.b.own).1)
  have HB2 := Lib.hid (T.young KU)
  have HK2 := Lib.hid (HK1.out.trans K2)
  skip
  have y00 : v2.cell? ⟨u2.heap.size, 0, none⟩ = some (.int .i64 qk0) := by rw [cell_block HX0_2.out]; rfl
  have y01 : v2.cell? ⟨u2.heap.size, 1, none⟩ = some (.int .i64 qa0) := by rw [cell_block HX0_2.out]; rfl
  have y02 : v2.cell? ⟨u2.heap.size, 2, none⟩ = some (.slice ga0 qs0.length gc0) := by rw [cell_block HX0_2.out]; rfl
  clear T K G KU K2 HC
  go_wp2_with fail
  clear hu
  have hlk : (code ++ [(4, 0, 0)]).length = code.length + 1 := by simp
  obtain ⟨cb, cc, ca, hcv, k1, k2, hcp⟩ := HB2.out.cellA code.length (by omega)
  have hcn := HTN.out cb (by rw [hcv]; rfl)
  subst hcv
  have z0 : v2.cell? ⟨p, 0, none⟩ = some (.slice (some ⟨cb, 0, none⟩) (code.length + 1) cc) := by rw [cell_block HB2.out.b.own, hlk]; rfl
  have b1 : (0 : Int) ≤ (code.length : Int) := by omega
  have b2 : (code.length : Int) < (code.length : Int) + 1 := by omega
  have b3 : ((code.length : Int)).toNat = code.length := by omega
  have HM := Lib.hid (HB2.out.young ((Kept.refl NB v2).drew))
  have HCN := Lib.hid hcn
  have HCP := Lib.hid hcp
  clear hlk hcn hcp
  go_still_tail 9, (by kernel_rfl)
  change wpList _ _ _ _ _ v2.drew
  have k3 : v2.drew.cell? ⟨cb, code.length * 3 + 1, none⟩ = some (.int .i64 ca) := k1
  have k4 : v2.drew.frozen? ⟨cb, code.length * 3 + 1, none⟩ = false := k2
  obtain ⟨v3, hu⟩ : ∃ v3, v2.drew.setCell ⟨cb, code.length * 3 + 1, none⟩ (.int .i64 qa0) = v3 := ⟨_, rfl⟩
  have HB3 := Lib.hid (show RBld F v3 p _ vp2 (setA (code ++ [(4, 0, 0)]) code.length qa0) ps by rw [← hu]; exact HM.out.setAt code.length (by simp) qa0)
  have HK3 := Lib.hid (show Kept (fun r => r = p) w v3 by rw [← hu]; exact HK2.out.drew.setCell (q := ⟨cb, code.length * 3 + 1, none⟩) (.inr HCN.out) _)
  have HCO := Lib.hid (show v2.heap[cb]? = _ from (owns_block HB2.out.b.code rfl).choose_spec)
  have HX0_3 := Lib.hid (show v3.heap[u2.heap.size]? = some (.cells #[.int .i64 qk0, .int .i64 qa0, (.slice ga0 qs0.length gc0)] 80 (0, 0)) by
    rw [← hu]; exact (Below.heap_setCell v2.drew ⟨cb, code.length * 3 + 1, none⟩ _ _ (blk_ne HX0_2.out HCO.out (by decide))).trans HX0_2.out)
  have HG0_3 := Lib.hid (show v3.ownsRow 0 3 1 (.slice ga0 qs0.length gc0) qs0.length (qs0.map intV) by
    rw [← hu]; exact owns_off (q := ⟨cb, code.length * 3 + 1, none⟩) (show v2.drew.ownsRow 0 3 1 _ _ _ from HG0_2.out) (fun h => owns_ne HG0_2.out HCO.out (by decide) h) _)
  clear y00 y01 y02
  have y00 : v3.cell? ⟨u2.heap.size, 0, none⟩ = some (.int .i64 qk0) := by rw [cell_block HX0_3.out]; rfl
  have y01 : v3.cell? ⟨u2.heap.size, 1, none⟩ = some (.int .i64 qa0) := by rw [cell_block HX0_3.out]; rfl
  have y02 : v3.cell? ⟨u2.heap.size, 2, none⟩ = some (.slice ga0 qs0.length gc0) := by rw [cell_block HX0_3.out]; rfl
  clear b1 b2 b3 k1 k2 z0
  go_wp2_with fail
  all_goals (first | go_ret | skip)
  all_goals exact ⟨rfl, ⟨_, _, _, HB3.out, by simp⟩, HK3.out⟩
set_option maxRecDepth 100000 in
set_option maxHeartbeats 4000000 in
theorem rdo_8 {F : Nat → Prop} {w : World} {p : Nat} {vc vp : Value} {code : List I3} (ps : List (Prt × Value)) (qk0 qa0 : Int) (qs0 : List Int) (gv0 : Value) (B : RBld F w p vc vp code (ps ++ [((⟨qk0, qa0, qs0⟩ : Prt), (gv0 : Value))])) (hF : ∀ r, w.heap.size ≤ r → F r) (hlen : code.length < 499) (hpl : (ps ++ [((⟨qk0, qa0, qs0⟩ : Prt), (gv0 : Value))]).length < 33) (hask : asksB 8 ((ps ++ [((⟨qk0, qa0, qs0⟩ : Prt), (gv0 : Value))]).map (·.1)).reverse = true)  :
    Calls Try.prog 22 #[.pointer (some ⟨p, 0, none⟩), .int .i64 8] w fun e w' => e = .returned (.int .i64 0) ∧ (∃ vc' vp' ps', RBld F w' p vc' vp' (setA (code ++ [(3, 0, 0)]) code.length qa0) ps' ∧ ps'.map (·.1) = ps.map (·.1)) ∧ Kept (fun r => r = p) w w' := by
  have HAS := Lib.hid (show Calls Try.prog 33 #[.pointer (some ⟨p, 0, none⟩), .int .i64 8] w fun e w' => e = .returned (.bool true) ∧ w = w' by have := asks_any B.b (by omega) 8 (by decide) (by decide); rwa [hask] at this)
  have HLA := Lib.hid (show Calls Try.prog 34 #[.int .i64 8] w fun e w' => e = .returned (.int .u8 3) ∧ w = w' from lays_any 8 (by decide) (by decide) w)
  have HOP := Lib.hid (show Calls Try.prog 35 #[.int .i64 8] w fun e w' => e = .returned (.bool false) ∧ w = w' from opens_any 8 (by decide) (by decide) w)
  obtain ⟨ga0, gc0, hgv0, _, hgc0, _⟩ := owns_slice (B.b.gaps ((⟨qk0, qa0, qs0⟩ : Prt), (gv0 : Value)) (by simp))
  dsimp only at hgv0
  subst hgv0
  obtain ⟨a0, c0, hv0, h01, h02, _⟩ := owns_slice B.b.code
  obtain ⟨a1, c1, hv1, h11, h12, _⟩ := owns_slice B.b.parts
  have d0 : w.cell? ⟨p, 0, none⟩ = some (.slice a0 code.length c0) := by rw [cell_block B.b.own, hv0]; rfl
  have d1 : w.cell? ⟨p, 1, none⟩ = some (.slice a1 (ps ++ [((⟨qk0, qa0, qs0⟩ : Prt), ((.slice ga0 qs0.length gc0) : Value))]).length c1) := by rw [cell_block B.b.own, hv1]; rfl
  obtain ⟨np, hnp⟩ : ∃ np, np = (ps ++ [((⟨qk0, qa0, qs0⟩ : Prt), ((.slice ga0 qs0.length gc0) : Value))]).length := ⟨_, rfl⟩
  rw [← hnp] at d1 h11 hpl
  have HNP := Lib.hid hnp
  have HPS := Lib.hid (show ps.length < 98 by simp at hnp; omega)
  have HB0 := Lib.hid B
  have HF := Lib.hid hF
  clear B hF hnp hv0 hv1 hask 
  go_enter Try.func22, Try.ntmps22
  try simp only [List.append]
  go_wp2_with fail
  with_reducible refine HAS.out.mono ?_
  rintro e v0 ⟨rfl, rfl⟩
  go_wp2_with fail
  with_reducible refine HLA.out.mono ?_
  rintro e v0 ⟨rfl, rfl⟩
  go_wp2_with fail
  with_reducible refine HOP.out.mono ?_
  rintro e v0 ⟨rfl, rfl⟩
  go_wp2_with fail
  clear d0 d1 h01 h11
  have HK0 := Lib.hid (Kept.refl (fun r => r = p) w)
  have HC := Lib.hid (rput_room HB0.out HF.out (3, 0, 0) (by omega))
  unfold insC at HC
  refine HC.out.mono ?_
  rintro e v1 ⟨rfl, ⟨vc1, T, TN⟩, K⟩
  have HB1 := Lib.hid T
  have HK1 := Lib.hid K
  have HTN := Lib.hid TN
  clear T K HC TN
  go_wp2_with fail
  have HC := Lib.hid (rpop_any (ps := ps) (q := ((⟨qk0, qa0, qs0⟩ : Prt), ((.slice ga0 qs0.length gc0) : Value))) HB1.out (by have := HPS.out; (try simp); omega))
  dsimp only at HC
  refine HC.out.mono ?_
  rintro e u2 ⟨rfl, ⟨vp2, T⟩, K, G⟩
  obtain ⟨v2, hu⟩ : ∃ v2, u2.alloc (.cells #[.int .i64 qk0, .int .i64 qa0, (.slice ga0 qs0.length gc0)] 80) = v2 := ⟨_, rfl⟩
  have KU : Kept NB u2 v2 := by rw [← hu]; exact (Kept.refl _ _).alloc _
  have K2 : Kept (fun r => r = p) v1 v2 := K.trans (KU.mono (fun _ h => h.elim))
  have HX0_2 := Lib.hid (show v2.heap[u2.heap.size]? = some (.cells #[.int .i64 qk0, .int .i64 qa0, (.slice ga0 qs0.length gc0)] 80 (0, 0)) by rw [← hu]; exact (heap_alloc u2 _).1)
  have HG0_2 := Lib.hid (owns_kept G KU (fun _ _ h => h))
  have HGF0 := Lib.hid (show ∀ r, (Value.slice ga0 qs0.length gc0).ownBlock = some r → F r from fun r hr => HB1.out.fg ((⟨qk0, qa0, qs0⟩ : Prt), ((.slice ga0 qs0.length gc0) : Value)) (by simp) r hr)
  have HE0 := Lib.hid (show u2.heap.size ≠ p from Nat.ne_of_gt (Array.getElem?_eq_some_iff.1 T.b.own).1)
  have HB2 := Lib.hid (T.young KU)
  have HK2 := Lib.hid (HK1.out.trans K2)
  skip
  have y00 : v2.cell? ⟨u2.heap.size, 0, none⟩ = some (.int .i64 qk0) := by rw [cell_block HX0_2.out]; rfl
  have y01 : v2.cell? ⟨u2.heap.size, 1, none⟩ = some (.int .i64 qa0) := by rw [cell_block HX0_2.out]; rfl
  have y02 : v2.cell? ⟨u2.heap.size, 2, none⟩ = some (.slice ga0 qs0.length gc0) := by rw [cell_block HX0_2.out]; rfl
  clear T K G KU K2 HC
  go_wp2_with fail
  clear hu
  have hlk : (code ++ [(3, 0, 0)]).length = code.length + 1 := by simp
  obtain ⟨cb, cc, ca, hcv, k1, k2, hcp⟩ := HB2.out.cellA code.length (by omega)
  have hcn := HTN.out cb (by rw [hcv]; rfl)
  subst hcv
  have z0 : v2.cell? ⟨p, 0, none⟩ = some (.slice (some ⟨cb, 0, none⟩) (code.length + 1) cc) := by rw [cell_block HB2.out.b.own, hlk]; rfl
  have b1 : (0 : Int) ≤ (code.length : Int) := by omega
  have b2 : (code.length : Int) < (code.length : Int) + 1 := by omega
  have b3 : ((code.length : Int)).toNat = code.length := by omega
  have HM := Lib.hid (HB2.out.young ((Kept.refl NB v2).drew))
  have HCN := Lib.hid hcn
  have HCP := Lib.hid hcp
  clear hlk hcn hcp
  go_still_tail 9, (by kernel_rfl)
  change wpList _ _ _ _ _ v2.drew
  have k3 : v2.drew.cell? ⟨cb, code.length * 3 + 1, none⟩ = some (.int .i64 ca) := k1
  have k4 : v2.drew.frozen? ⟨cb, code.length * 3 + 1, none⟩ = false := k2
  obtain ⟨v3, hu⟩ : ∃ v3, v2.drew.setCell ⟨cb, code.length * 3 + 1, none⟩ (.int .i64 qa0) = v3 := ⟨_, rfl⟩
  have HB3 := Lib.hid (show RBld F v3 p _ vp2 (setA (code ++ [(3, 0, 0)]) code.length qa0) ps by rw [← hu]; exact HM.out.setAt code.length (by simp) qa0)
  have HK3 := Lib.hid (show Kept (fun r => r = p) w v3 by rw [← hu]; exact HK2.out.drew.setCell (q := ⟨cb, code.length * 3 + 1, none⟩) (.inr HCN.out) _)
  have HCO := Lib.hid (show v2.heap[cb]? = _ from (owns_block HB2.out.b.code rfl).choose_spec)
  have HX0_3 := Lib.hid (show v3.heap[u2.heap.size]? = some (.cells #[.int .i64 qk0, .int .i64 qa0, (.slice ga0 qs0.length gc0)] 80 (0, 0)) by
    rw [← hu]; exact (Below.heap_setCell v2.drew ⟨cb, code.length * 3 + 1, none⟩ _ _ (blk_ne HX0_2.out HCO.out (by decide))).trans HX0_2.out)
  have HG0_3 := Lib.hid (show v3.ownsRow 0 3 1 (.slice ga0 qs0.length gc0) qs0.length (qs0.map intV) by
    rw [← hu]; exact owns_off (q := ⟨cb, code.length * 3 + 1, none⟩) (show v2.drew.ownsRow 0 3 1 _ _ _ from HG0_2.out) (fun h => owns_ne HG0_2.out HCO.out (by decide) h) _)
  clear y00 y01 y02
  have y00 : v3.cell? ⟨u2.heap.size, 0, none⟩ = some (.int .i64 qk0) := by rw [cell_block HX0_3.out]; rfl
  have y01 : v3.cell? ⟨u2.heap.size, 1, none⟩ = some (.int .i64 qa0) := by rw [cell_block HX0_3.out]; rfl
  have y02 : v3.cell? ⟨u2.heap.size, 2, none⟩ = some (.slice ga0 qs0.length gc0) := by rw [cell_block HX0_3.out]; rfl
  clear b1 b2 b3 k1 k2 z0
  go_wp2_with fail
  all_goals (first | go_ret | skip)
  all_goals exact ⟨rfl, ⟨_, _, _, HB3.out, by simp⟩, HK3.out⟩
end Go.Proofs.Ytdpoobkfhmmbjaa
