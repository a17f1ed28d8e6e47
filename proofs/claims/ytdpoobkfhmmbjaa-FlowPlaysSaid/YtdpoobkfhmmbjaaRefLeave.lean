/- The walk of the reference's leave. -/
import Derived.Test.YtdpoobkfhmmbjaaRefLib
import Derived.Test.YtdpoobkfhmmbjaaGap
namespace Go.Proofs.Ytdpoobkfhmmbjaa
open Go.RowKit
open Go.MapKept (heap_alloc)
/-- the last loop among the first i parts -/
def lastL (ps : List (Prt × Value)) : Nat → Nat
  | 0 => 0
  | i + 1 => if ps[i]?.map (fun q => q.1.kind) = some 2 then i else lastL ps i
theorem lastL_yes {ps : List (Prt × Value)} {i : Nat} {q : Prt × Value} (h : ps[i]? = some q) (hk : q.1.kind = 2) : lastL ps (i + 1) = i := by simp [lastL, h, hk]
theorem lastL_no {ps : List (Prt × Value)} {i : Nat} {q : Prt × Value} (h : ps[i]? = some q) (hk : q.1.kind ≠ 2) : lastL ps (i + 1) = lastL ps i := by simp [lastL, h, hk]
theorem lastL_le (ps : List (Prt × Value)) (i : Nat) : lastL ps i ≤ i := by
  induction i with
  | zero => exact Nat.le_refl _
  | succ i ih =>
    rw [lastL]
    split <;> omega
theorem lastL_at (l1 l2 : List (Prt × Value)) (q : Prt × Value) (hq : q.1.kind = 2) (h2 : ∀ y ∈ l2, y.1.kind ≠ 2) : ∀ j, j ≤ l2.length → lastL (l1 ++ q :: l2) (l1.length + 1 + j) = l1.length := by
  intro j
  induction j with
  | zero => intro _; exact lastL_yes (by simp) hq
  | succ j ih =>
    intro hj
    obtain ⟨y, hy⟩ : ∃ y, l2[j]? = some y := ⟨_, List.getElem?_eq_getElem (by omega)⟩
    have e : (l1 ++ q :: l2)[l1.length + 1 + j]? = some y := by
      rw [List.getElem?_append_right (by omega), show l1.length + 1 + j - l1.length = j + 1 by omega]
      simpa using hy
    exact (lastL_no e (h2 y (List.mem_of_getElem? hy))).trans (ih (by omega))
theorem mem_mid {α : Type} {l1 l2 : List α} {x q r : α} (h : r ∈ l1 ++ x :: l2) : r ∈ l1 ++ q :: l2 ∨ r = x := by
  rcases List.mem_append.1 h with h | h
  · exact .inl (List.mem_append.2 (.inl h))
  · rcases List.mem_cons.1 h with h | h
    · exact .inr h
    · exact .inl (List.mem_append.2 (.inr (List.mem_cons_of_mem _ h)))
set_option maxRecDepth 100000 in
set_option maxHeartbeats 4000000 in
theorem rleave_any {F : Nat → Prop} {w : World} {p : Nat} {vc vp : Value} {code : List I3} {l1 l2 : List (Prt × Value)} {q : Prt × Value} (B : RBld F w p vc vp code (l1 ++ q :: l2)) (hF : ∀ r, w.heap.size ≤ r → F r) (hl : (l1 ++ q :: l2).length < 99) (hx : q.1.kind = 2) (h2 : ∀ y ∈ l2, y.1.kind ≠ 2) (hgl : q.1.gaps.length < 600) (v : Int) :
    Calls Try.prog 39 #[.pointer (some ⟨p, 0, none⟩), .int .i64 v] w fun e w' => e = .returned (.tuple #[]) ∧ (∃ vp' gv', RBld F w' p vc vp' code (l1 ++ (⟨q.1.kind, q.1.at_, q.1.gaps ++ [v]⟩, gv') :: l2)) ∧ Kept (fun r => r = p) w w' := by
  have HLA := Lib.hid (lastL_at l1 l2 q hx h2 l2.length (Nat.le_refl _))
  obtain ⟨ps, hps⟩ : ∃ ps, ps = l1 ++ q :: l2 := ⟨_, rfl⟩
  have hpn : ps.length = l1.length + 1 + l2.length := by rw [hps]; simp; omega
  have hat : ps[l1.length]? = some q := by rw [hps]; simp
  rw [← hpn, ← hps] at HLA
  rw [← hps] at B hl
  have HP := Lib.hid hps
  have HAT := Lib.hid hat
  obtain ⟨np, hnp⟩ : ∃ np, np = ps.length := ⟨_, rfl⟩
  have HN := Lib.hid hnp
  obtain ⟨a, c, hvp, h1, h3, _⟩ := owns_slice B.b.parts
  subst hvp
  have hk1 : l1.length < np := by omega
  have c1 : w.cell? ⟨p, 1, none⟩ = some (.slice a np c) := by rw [cell_block B.b.own, hnp]; rfl
  rw [← hnp] at h1 hl
  have HB := Lib.hid B
  have HF := Lib.hid hF
  have HX := Lib.hid hx
  clear B hF hx h2 hat hps hpn hnp
  go_enter Try.func39, Try.ntmps39
  go_wp2_with fail
  go_loop [4, 5] (fun vk vi => ∃ i : Nat, i ≤ np ∧ vi = .int .i64 i ∧ vk = .int .i64 (lastL ps i : Nat)) (fun _ vi => np - (intOf vi).toNat)
  case atStart => exact ⟨0, by omega, rfl, rfl⟩
  case round =>
    obtain ⟨i, hi, rfl, rfl⟩ := hrel
    by_cases hlt : i < np
    · obtain ⟨y, hy⟩ : ∃ y, ps[i]? = some y := ⟨_, List.getElem?_eq_getElem (by rw [← HN.out]; exact hlt)⟩
      obtain ⟨g, hg, k0, _⟩ := owns_cell HB.out.b.parts (partsV_get ps i y hy).1
      cases hg
      by_cases hk2 : y.1.kind = 2
      · have b1 : (y.1.kind == 2) = true := by rw [hk2]; rfl
        have HL := Lib.hid (lastL_yes hy hk2)
        clear hy hk2
        generalize y.1.kind = kd at *
        go_wp2_with fail
        first
          | (refine ⟨⟨i + 1, by omega, by go_num, by rw [HL.out]⟩, ?_⟩; simp [intOf]; omega)
          | (go_round; case rel => exact ⟨i + 1, by omega, by go_num, by rw [HL.out]⟩; case measure => (simp [intOf]; omega))
      · have b1 : (y.1.kind == 2) = false := by simpa using hk2
        have HL := Lib.hid (lastL_no hy hk2)
        clear hy hk2
        generalize y.1.kind = kd at *
        go_wp2_with fail
        first
          | (refine ⟨⟨i + 1, by omega, by go_num, by rw [HL.out]⟩, ?_⟩; simp [intOf]; omega)
          | (go_round; case rel => exact ⟨i + 1, by omega, by go_num, by rw [HL.out]⟩; case measure => (simp [intOf]; omega))
    · obtain rfl : i = np := by omega
      have hla := HLA.out
      rw [← HN.out] at hla
      rw [hla]
      clear hla
      have HPO := Lib.hid (show w.ownsRow 0 80 3 (.slice a i c) i (partsV ps) by have := HB.out.b.parts; rw [← HN.out] at this; exact this)
      have HPS := Lib.hid (partsV_one ps HB.out.b.gaps)
      have HW := Lib.hid (show Kept NB w (w.alloc (.cells #[] 80)) from (Kept.refl _ w).alloc _)
      have c2 : (w.alloc (.cells #[] 80)).cell? ⟨p, 1, none⟩ = some (.slice a i c) := by rw [cell_block (HB.out.young HW.out).b.own, HN.out]; rfl
      have H63 := Lib.hid (show i ≤ maxLen by simp only [maxLen]; omega)
      have HBy := Lib.hid (show i * 40 ≤ 140737488355328 by omega)
      obtain ⟨qv, hqv⟩ : ∃ qv, qv = q.2 := ⟨_, rfl⟩
      obtain ⟨gs, hgs⟩ : ∃ gs, gs = q.1.gaps := ⟨_, rfl⟩
      have HGQ := Lib.hid (show w.ownsRow 0 3 1 qv gs.length (gs.map intV) by rw [hqv, hgs]; exact HB.out.b.gaps q (List.mem_of_getElem? HAT.out))
      have hgs6 : gs.length < 600 := by rw [hgs]; exact hgl
      have HG3 := Lib.hid (show gs.length ≤ maxLen by simp only [maxLen]; omega)
      have HG4 := Lib.hid (show gs.length * 8 ≤ 140737488355328 by omega)
      have HG5 := Lib.hid (show gs.length + 1 ≤ maxLen by simp only [maxLen]; omega)
      have HG6 := Lib.hid (show (gs.length + 1) * 8 ≤ 140737488355328 by omega)
      have HQV := Lib.hid hqv
      have HGS := Lib.hid hgs
      have HPG := Lib.hid (show (partsV ps)[l1.length * 3 + 2]? = some qv by rw [hqv]; exact (partsV_get ps l1.length q HAT.out).2.2)
      have hb2 : (0 : Int) ≤ (l1.length : Int) := by omega
      have hb3 : (l1.length : Int) < (i : Int) := by omega
      clear hqv hgs hgl
      obtain ⟨i0, hi0, hz0, hz1, hz2⟩ := info_parts info80
      obtain ⟨j0, hj0, hy0, hy1, hy2⟩ := info_parts info3r
      go_wp2_with (first
        | (at_builtin
           refine wpList_append_fresh _ rfl _ _ _ rfl 80 i0 _ 3 40 Try.underlying48 hi0 hz0 hz1 hz2 rfl (by omega) w.heap.size rfl (heap_alloc w _).1 (.slice a i c) i (partsV ps) rfl (owns_kept HPO.out HW.out (fun _ _ h => h)) HPS.out H63.out HBy.out ?_
           intro a1 c1' w1 own1 kept1 at1
           have HK1 := Lib.hid (show Kept NB w w1 from Kept.young HW.out kept1 (by rintro r rfl; exact Nat.le_refl _))
           have HA1 := Lib.hid (show ∀ k, (Value.slice a1 i c1').ownBlock = some k → w.heap.size ≤ k from fun k hk => by
             rcases at1 k hk with h | h
             · omega
             · simp at h; omega)
           obtain ⟨g, rfl, e3, f3⟩ := owns_cell (own1.alloc (.cells #[] 3)) HPG.out
           have HO1 := Lib.hid own1
           clear own1 kept1 at1)
        | (at_builtin
           refine wpList_append_fresh _ rfl _ _ _ rfl 3 j0 _ 1 8 Try.underlying23 hj0 hy0 hy1 hy2 rfl (by omega) w1.heap.size rfl (heap_alloc w1 _).1 qv gs.length (gs.map intV) rfl (owns_kept HGQ.out (HK1.out.alloc _) (fun _ _ h => h)) (gapsV_one gs) HG3.out HG4.out ?_
           intro a2 c2' w2 own2 kept2 at2
           have HK2 := Lib.hid (show Kept NB w1 w2 from Kept.young ((Kept.refl _ w1).alloc (.cells #[] 3)) kept2 (by rintro r rfl; exact Nat.le_refl _))
           have HA2 := Lib.hid (show ∀ k, (Value.slice a2 gs.length c2').ownBlock = some k → w1.heap.size ≤ k from fun k hk => by
             rcases at2 k hk with h | h
             · omega
             · simp at h; omega)
           have HO2 := Lib.hid own2
           clear own2 kept2 at2)
        | (at_builtin
           refine wpList_append_lies _ rfl _ _ _ rfl 0 3 j0 _ 1 8 Try.underlying23 hj0 hy0 hy1 hy2 rfl (by omega) (.slice a2 gs.length c2') gs.length (gs.map intV) rfl (HO2.out.alloc _) ⟨w2.heap.size, 0, none⟩ 1 1 [.int .i64 v] rfl rfl (World.news_of_block (cs := #[.int .i64 v]) (t := 3) (fr := (0, 0)) (heap_alloc_new w2 _)) (by simp [Value.oneCell']) (by omega) HG5.out HG6.out (Nat.zero_le _) _ rfl ?_
           intro gg cap w3 own3 grow3 at3 lt3
           have K3 : Kept NB w1 w3 := Kept.young (S := fun r => (Value.slice a2 gs.length c2').ownBlock = some r) (HK2.out.alloc _) ((Kept.refl _ _).grown grow3 (fun k hk => .inl hk)) (fun r hr => HA2.out r hr)
           have HA3 := Lib.hid (show w1.heap.size ≤ gg by
             rcases at3 with h | h
             · exact HA2.out _ h
             · rw [h]; exact (HK2.out.alloc _).size)
           have O13 := owns_kept HO1.out K3 (fun _ _ h => h)
           obtain ⟨g', hg', e4, f4⟩ := owns_cell O13 HPG.out
           cases hg'
           have HO13 := Lib.hid O13
           have HK3 := Lib.hid (HK1.out.trans K3)
           have HO3 := Lib.hid own3
           have B3 := HB.out.young HK3.out
           have c5 : w3.cell? ⟨p, 1, none⟩ = some (.slice a i c) := by rw [cell_block B3.b.own, HN.out]; rfl
           have f5 : w3.frozen? ⟨p, 1, none⟩ = false := frozen_block B3.b.own 1
           have hpw := (Array.getElem?_eq_some_iff.1 HB.out.b.own).1
           have hgw := HA1.out g rfl
           have n1 : ¬ p = g := by omega
           have n2 : ¬ g = p := by omega
           have HK4 := Lib.hid (HK3.out.setCell (q := ⟨g, l1.length * 3 + 2, none⟩) (.inr hgw) (.slice (some ⟨gg, 0, none⟩) (gs.length + 1) cap))
           have HP4 := Lib.hid (show (w3.setCell ⟨g, l1.length * 3 + 2, none⟩ (.slice (some ⟨gg, 0, none⟩) (gs.length + 1) cap)).ownsRow 0 80 3 (.slice (some ⟨g, 0, none⟩) i c1') (l1 ++ (⟨q.1.kind, q.1.at_, q.1.gaps ++ [v]⟩, .slice (some ⟨gg, 0, none⟩) (gs.length + 1) cap) :: l2).length (partsV (l1 ++ (⟨q.1.kind, q.1.at_, q.1.gaps ++ [v]⟩, .slice (some ⟨gg, 0, none⟩) (gs.length + 1) cap) :: l2)) by
             have := owns_set HO13.out (g := g) rfl (l1.length * 3 + 2) (.slice (some ⟨gg, 0, none⟩) (gs.length + 1) cap)
             rw [HP.out, partsV_set l1 l2 q.1 q.2 _ (q.1.gaps ++ [v])] at this
             rw [show (l1 ++ ((⟨q.1.kind, q.1.at_, q.1.gaps ++ [v]⟩ : Prt), Value.slice (some ⟨gg, 0, none⟩) (gs.length + 1) cap) :: l2).length = i by rw [HN.out, HP.out]; simp]
             exact this)
           have HO4 := Lib.hid (show (w3.setCell ⟨g, l1.length * 3 + 2, none⟩ (.slice (some ⟨gg, 0, none⟩) (gs.length + 1) cap)).ownsRow 0 3 1 (.slice (some ⟨gg, 0, none⟩) (gs.length + 1) cap) (q.1.gaps ++ [v]).length ((q.1.gaps ++ [v]).map intV) by
             have := owns_off (q := ⟨g, l1.length * 3 + 2, none⟩) HO3.out (fun h => by
               rcases owns_apart HO3.out HO13.out (by decide) with h1 | h1
               · rw [h1] at h; cases h
               · exact h1 h) (.slice (some ⟨gg, 0, none⟩) (gs.length + 1) cap)
             rw [HGS.out] at this
             exact (own_snocG (by rw [HGS.out]; exact this)))
           have HT := Lib.hid (HB.out.set_parts HK4.out HP4.out (fun k hk => by simp [Value.ownBlock] at hk; subst hk; exact HF.out _ hgw) (fun r hr => by
               rcases mem_mid hr with h | h
               · exact (HB.out.young HK4.out).b.gaps r (by rw [HP.out]; exact h)
               · rw [h]; exact HO4.out) (fun r hr k hk => by
               rcases mem_mid hr with h | h
               · exact HB.out.fg r (by rw [HP.out]; exact h) k hk
               · rw [h] at hk; simp [Value.ownBlock] at hk; subst hk; exact HF.out _ (Nat.le_trans HK1.out.size HA3.out)))
           clear own3 grow3 at3 lt3 K3 O13 B3 hpw hgw))
      all_goals (first | go_end0 | skip)
      all_goals exact ⟨rfl, ⟨_, _, HT.out.1⟩, HT.out.2⟩
end Go.Proofs.Ytdpoobkfhmmbjaa
