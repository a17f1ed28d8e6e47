/- The walk of the reference's push. -/
import Derived.Test.YtdpoobkfhmmbjaaRefLib
import Derived.Deep.RegionLaw
namespace Go.Proofs.Ytdpoobkfhmmbjaa
open Go.RowKit
open Go.MapKept (heap_alloc)
theorem gaps_snoc {w : World} {ps : List (Prt × Value)} {x : Prt × Value} (h : ∀ q ∈ ps, w.ownsRow 0 3 1 q.2 q.1.gaps.length (q.1.gaps.map intV)) (hx : w.ownsRow 0 3 1 x.2 x.1.gaps.length (x.1.gaps.map intV)) :
    ∀ q ∈ ps ++ [x], w.ownsRow 0 3 1 q.2 q.1.gaps.length (q.1.gaps.map intV) := by
  intro q hq
  rcases List.mem_append.1 hq with hq | hq
  · exact h q hq
  · rw [List.mem_singleton.1 hq]; exact hx
theorem fgaps_snoc {F : Nat → Prop} {ps : List (Prt × Value)} {x : Prt × Value} (h : ∀ q ∈ ps, ∀ k, q.2.ownBlock = some k → F k) (hx : ∀ k, x.2.ownBlock = some k → F k) : ∀ q ∈ ps ++ [x], ∀ k, q.2.ownBlock = some k → F k := by
  intro q hq
  rcases List.mem_append.1 hq with hq | hq
  · exact h q hq
  · rw [List.mem_singleton.1 hq]; exact hx
set_option maxRecDepth 100000 in
set_option maxHeartbeats 4000000 in
theorem rpush_any {F : Nat → Prop} {w : World} {p : Nat} {vc vp : Value} {code : List I3} {ps : List (Prt × Value)} (B : RBld F w p vc vp code ps) (hF : ∀ r, w.heap.size ≤ r → F r) (kind at_ : Int) (gaps : List Int) (gv : Value) (h : ps.length < 99)
    (hq : w.ownsRow 0 3 1 gv gaps.length (gaps.map intV)) (hqF : ∀ k, gv.ownBlock = some k → F k) :
    Calls Try.prog 36 #[.pointer (some ⟨p, 0, none⟩), .agg #[.int .i64 kind, .int .i64 at_, gv]] w fun e w' => e = .returned (.tuple #[]) ∧ (∃ vp', RBld F w' p vc vp' code (ps ++ [(⟨kind, at_, gaps⟩, gv)])) ∧ Kept (fun r => r = p) w w' := by
  obtain ⟨qa, qc, hqv, hq1, hq2, hq3⟩ := owns_slice hq
  subst hqv
  obtain ⟨a, c, hv, h1, h2, h3⟩ := owns_slice B.b.parts
  have hpl := (Array.getElem?_eq_some_iff.1 B.b.own).1
  obtain ⟨wa, hwa⟩ : ∃ wa, w.alloc (.cells (#[.int .i64 kind, .int .i64 at_, .slice qa gaps.length qc]) 80) = wa := ⟨_, rfl⟩
  have hb : wa.heap[w.heap.size]? = some (.cells (#[.int .i64 kind, .int .i64 at_, .slice qa gaps.length qc]) 80 (0, 0)) := by rw [← hwa]; exact (heap_alloc w _).1
  have HB := Lib.hid (show RBld F wa p vc vp code ps by rw [← hwa]; exact B.young ((Kept.refl _ w).alloc _))
  have HK := Lib.hid (show Kept (fun r => r = p) w wa by rw [← hwa]; exact (Kept.refl _ w).alloc _)
  have HG := Lib.hid (HB.out.b.gaps)
  have HQF := Lib.hid hqF
  have HQ := Lib.hid (show wa.ownsRow 0 3 1 (.slice qa gaps.length qc) gaps.length (gaps.map intV) by rw [← hwa]; exact owns_kept hq ((Kept.refl NB w).alloc _) (fun _ _ h => h))
  have HF := Lib.hid (show ∀ r, wa.heap.size ≤ r → F r from fun r hr => hF r (by have := HK.out.size; omega))
  have HS : ∀ W, Kept NB wa W → W.cell? ⟨p, 1, none⟩ = some (.slice a ps.length c) ∧ W.frozen? ⟨p, 1, none⟩ = false ∧ W.cell? ⟨w.heap.size, 0, none⟩ = some (.int .i64 kind) ∧ W.cell? ⟨w.heap.size, 1, none⟩ = some (.int .i64 at_) ∧ W.cell? ⟨w.heap.size, 2, none⟩ = some (.slice qa gaps.length qc) := fun W K => by
    have k1 := (HB.out.young K).b.own
    have k2 := (K.block _ (Array.getElem?_eq_some_iff.1 hb).1 (fun h => h)).trans hb
    refine ⟨by rw [cell_block k1, hv]; rfl, frozen_block k1 1, by rw [cell_block k2]; rfl, by rw [cell_block k2]; rfl, by rw [cell_block k2]; rfl⟩
  have HS2 := Lib.hid HS
  obtain ⟨c1, _, d0, d1, d2⟩ := HS wa (Kept.refl _ _)
  have H63 := Lib.hid (show ps.length ≤ maxLen by simp only [maxLen]; omega)
  have HBy := Lib.hid (show ps.length * 40 ≤ 140737488355328 by omega)
  have H64 := Lib.hid (show ps.length + 1 ≤ maxLen by simp only [maxLen]; omega)
  have HBz := Lib.hid (show (ps.length + 1) * 40 ≤ 140737488355328 by omega)
  subst hv
  clear B h3 hb HS hF hpl hq hq3 hqF
  obtain ⟨i0, hi0, hz0, hz1, hz2⟩ := info_parts info80
  go_enter Try.func36, Try.ntmps36
  go_wp2_with fail
  clear hwa
  have KE : Kept NB wa (wa.alloc (.cells #[] 80)).drew := ((Kept.refl _ _).alloc _).drew
  have KX : Kept NB wa (wa.alloc (.cells #[.int .i64 kind, .int .i64 at_, .slice qa gaps.length qc] 80)).drew := ((Kept.refl _ _).alloc _).drew
  have KEX : Kept NB wa ((wa.alloc (.cells #[] 80)).alloc (.cells #[.int .i64 kind, .int .i64 at_, .slice qa gaps.length qc] 80)).drew := (((Kept.refl _ _).alloc _).alloc _).drew
  have KXE : Kept NB wa ((wa.alloc (.cells #[.int .i64 kind, .int .i64 at_, .slice qa gaps.length qc] 80)).alloc (.cells #[] 80)).drew := (((Kept.refl _ _).alloc _).alloc _).drew
  obtain ⟨e1, _, e2, e3, e4⟩ := HS2.out _ KE
  obtain ⟨x1, _, _⟩ := HS2.out _ KX
  obtain ⟨y1, _, _⟩ := HS2.out _ KEX
  obtain ⟨z1, _, _⟩ := HS2.out _ KXE
  rw [World.cell?_drew] at e1 e2 e3 e4 x1 y1 z1
  have KK := Lib.hid (And.intro KE (And.intro KX (And.intro KEX KXE)))
  clear KE KX KEX KXE
  go_region_law (first
      | ((skip
          refine step_append_fresh _ (by rfl) _ _ _ (by rfl) 80 i0 _ 3 40 Try.underlying48 hi0 hz0 hz1 hz2 rfl (by omega) _ (by rfl) ?_ _ _ (partsV ps) (by rfl) ?_ (partsV_one ps HG.out) H63.out HBy.out ?_
          first | exact (heap_alloc _ _).1 | exact heap_first _ _ _ | exact heap_second _ _ _
          · exact (HB.out.young (by first | exact KK.out.1 | exact KK.out.2.2.1 | exact KK.out.2.2.2)).b.parts
          intro a1 c1 w1 own1 kept1 at1
          have K1 : Kept NB wa w1 := Kept.young (by first | exact KK.out.1 | exact KK.out.2.2.1 | exact KK.out.2.2.2) kept1 (by rintro r rfl; simp)
          have AT1 := Lib.hid (show ∀ k, (Value.slice a1 ps.length c1).ownBlock = some k → wa.heap.size ≤ k from fun k hk => by
            rcases at1 k hk with h | h
            · subst h; simp
            · simp at h; omega)
          have OWN1 := Lib.hid own1
          have KEPT1 := Lib.hid kept1
          obtain ⟨f1, f2, f3, f4, f5⟩ := HS2.out _ K1
          have HK1 := Lib.hid K1
          clear own1 kept1 at1 K1))
      | ((skip
          refine step_append_lies _ (by rfl) _ _ _ (by rfl) 0 80 i0 _ 3 40 Try.underlying48 hi0 hz0 hz1 hz2 rfl (by omega) (.slice a1 ps.length c1) ps.length (partsV ps) (by rfl) ?_ ⟨_, 0, none⟩ 1 1 [.int .i64 kind, .int .i64 at_, .slice qa gaps.length qc] (by rfl) (by rfl) (World.news_of_block (cs := #[.int .i64 kind, .int .i64 at_, .slice qa gaps.length qc]) (t := 80) (fr := (0, 0)) ?_) (by simp [Value.oneCell']) (by omega) H64.out HBz.out (Nat.zero_le _) _ rfl ?_
          first | exact OWN1.out | exact owns_kept OWN1.out ((Kept.refl NB w1).alloc _) (fun _ _ h => h)
          first
              | exact (heap_alloc _ _).1
              | (refine (KEPT1.out.block _ ?_ ?_).trans (heap_second _ _ _) <;> (simp <;> omega))
              | (refine (KEPT1.out.block _ ?_ ?_).trans (heap_first _ _ _) <;> (simp <;> omega))
          intro gg cap w2 own2 grow2 at2 lt2
          have K2 : Kept NB wa w2 := Kept.young (S := fun r => (Value.slice a1 ps.length c1).ownBlock = some r) (by first | exact HK1.out | exact HK1.out.alloc _) ((Kept.refl _ _).grown grow2 (fun k hk => .inl hk)) (fun r hr => AT1.out r hr)
          have AT2 := Lib.hid (show wa.heap.size ≤ gg by
            rcases at2 with h | h
            · exact AT1.out _ h
            · rw [h]; first | exact HK1.out.size | exact (HK1.out.alloc _).size)
          have HT := Lib.hid (HB.out.set_parts (ps' := ps ++ [(⟨kind, at_, gaps⟩, .slice qa gaps.length qc)]) K2 (own_snocP own2) (fun k hk => by simp [Value.ownBlock] at hk; subst hk; exact HF.out _ AT2.out) (gaps_snoc (fun q hq => owns_kept (HG.out q hq) K2 (fun _ _ h => h)) (owns_kept HQ.out K2 (fun _ _ h => h))) (fgaps_snoc HB.out.fg HQF.out))
          obtain ⟨g1, g2, g3, g4, g5⟩ := HS2.out _ K2
          have HK2 := Lib.hid K2
          clear own2 grow2 at2 lt2 K2)))
  all_goals go_wp2_with fail
  all_goals (first | go_end0 | skip)
  all_goals exact ⟨rfl, ⟨_, HT.out.1⟩, HK.out.trans HT.out.2⟩
end Go.Proofs.Ytdpoobkfhmmbjaa
