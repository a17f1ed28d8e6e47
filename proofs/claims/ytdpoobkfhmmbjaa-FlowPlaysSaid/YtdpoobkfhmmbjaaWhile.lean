/- The walk of flow.Builder's while. -/
import Derived.Test.YtdpoobkfhmmbjaaBack
namespace Go.Proofs.Ytdpoobkfhmmbjaa
open Go.RowKit
open Go.MapKept (heap_alloc)
section
variable {F G : Nat → Prop} {w : World} {p : Nat} {vc vp : Value} {code : List I3} {ps : List (Prt × Value)}
theorem Bld.restrict (B : Bld F w p vc vp code ps) {P : Nat → Prop} (hp : P p) (hc : ∀ k, vc.ownBlock = some k → P k) (hq : ∀ k, vp.ownBlock = some k → P k) (hg : ∀ q ∈ ps, ∀ k, q.2.ownBlock = some k → P k) : Bld (fun r => F r ∧ P r) w p vc vp code ps :=
  ⟨B.own, B.code, B.parts, B.gaps, B.apart, ⟨B.fp, hp⟩, fun k hk => ⟨B.fc k hk, hc k hk⟩, fun k hk => ⟨B.fq k hk, hq k hk⟩, fun q h k hk => ⟨B.fg q h k hk, hg q h k hk⟩⟩
set_option maxRecDepth 100000 in
set_option maxHeartbeats 4000000 in
theorem while_any {q : Prt × Value} (B : Bld F w p vc vp code (ps ++ [q])) (hF : ∀ r, w.heap.size ≤ r → F r) (hpl : ps.length < 90) (v : Int) :
    Calls Try.prog 45 #[.pointer (some ⟨p, 0, none⟩), .int .i64 v] w fun e w' => e = .returned (.tuple #[]) ∧ (∃ vp', Bld F w' p vc vp' code (ps ++ [(⟨0, v, []⟩, .slice none 0 0)] ++ [q])) ∧ Kept F w w' := by
  have HT := Lib.hid (take_any B)
  have HAP := Lib.hid (fun r hr => (List.pairwise_append.1 B.apart).2.2 r hr q (by simp))
  have HGF := Lib.hid (B.fg q (by simp))
  obtain ⟨⟨kind, at_, gaps⟩, qv⟩ := q
  obtain ⟨qa, qc, hq, hq1, hq2, hq3⟩ := owns_slice (B.gaps (⟨kind, at_, gaps⟩, qv) (by simp))
  dsimp only at hq hq1 hq2 hq3
  subst hq
  have HF := Lib.hid hF
  clear B hF hq3
  dsimp only at HT HAP HGF
  go_enter Try.func45, Try.ntmps45
  go_wp2_with (first
    | (go_at_call 64; refine HT.out.mono ?_; rintro e w1 ⟨rfl, ⟨vp1, B1⟩, K1, Q1⟩
       have B1r := (B1.tight.restrict (P := fun r => (Value.slice qa gaps.length qc).ownBlock ≠ some r) (owns_ne Q1 B1.own (by decide)) (fun k hk h => by
           rcases owns_apart Q1 B1.code (by decide) with h1 | h1
           · rw [h1] at h; cases h
           · exact h1 (h.trans hk.symm)) (fun k hk h => by
           rcases owns_apart Q1 B1.parts (by decide) with h1 | h1
           · rw [h1] at h; cases h
           · exact h1 (h.trans hk.symm)) (fun r hr k hk h => by
           rcases HAP.out r hr with h1 | h1
           · rw [h1] at hk; cases hk
           · exact h1 (hk.trans h.symm))).alloc (.cells #[.int .i64 kind, .int .i64 at_, .slice qa gaps.length qc] 85)
       have hq1lt : ∀ k, (Value.slice qa gaps.length qc).ownBlock = some k → k < w1.heap.size := fun k hk => owns_lt Q1 hk
       have HO := Lib.hid (open_none (B1r.mono (G := fun r => F r ∧ r ≠ w1.heap.size ∧ (Value.slice qa gaps.length qc).ownBlock ≠ some r) (fun r hr => ⟨hr.1.1, by have := hr.1.2; omega, hr.2⟩)) (fun r hr => ⟨grown_hF HF.out K1 r (by simp at hr; omega), by simp at hr; omega, fun h => by have := hq1lt r h; simp at hr; omega⟩) 0 v (by omega))
       have HTB := Lib.hid (show (w1.alloc (.cells #[.int .i64 kind, .int .i64 at_, .slice qa gaps.length qc] 85)).heap[w1.heap.size]? = some (.cells #[.int .i64 kind, .int .i64 at_, .slice qa gaps.length qc] 85 (0, 0)) from (heap_alloc w1 _).1)
       have HQ1 := Lib.hid (owns_kept Q1 ((Kept.refl (fun _ => False) w1).alloc (.cells #[.int .i64 kind, .int .i64 at_, .slice qa gaps.length qc] 85)) (fun _ _ h => h))
       have HK1 := Lib.hid (K1.alloc (.cells #[.int .i64 kind, .int .i64 at_, .slice qa gaps.length qc] 85))
       have HS1 := Lib.hid (show w1.heap.size < (w1.alloc (.cells #[.int .i64 kind, .int .i64 at_, .slice qa gaps.length qc] 85)).heap.size by simp)
       clear B1 B1r K1 Q1 hq1lt)
    | (go_at_call 41; refine HO.out.mono ?_; rintro e w2 ⟨rfl, ⟨vp2, B2⟩, K2⟩
       have HB2 := Lib.hid (B2.mono (G := F) (fun r hr => hr.1))
       have HTB2 := Lib.hid ((K2.block _ HS1.out (fun h => h.2.1 rfl)).trans HTB.out)
       have HQ2 := Lib.hid (owns_kept HQ1.out K2 (fun k hk h => h.2.2 hk))
       have HK2 := Lib.hid (HK1.out.trans (K2.mono (fun r hr => hr.1)))
       clear B2 K2))
  obtain ⟨a2, ca2, hvp2, h1, h2, _⟩ := owns_slice HB2.out.parts
  subst hvp2
  have hpl2 : (ps ++ [((⟨0, v, []⟩ : Prt), Value.slice none 0 0)]).length = ps.length + 1 := by simp
  have HPL := Lib.hid hpl2
  generalize w1.heap.size = tb at *
  have c1 : w2.cell? ⟨p, 1, none⟩ = some (.slice a2 (ps ++ [((⟨0, v, []⟩ : Prt), Value.slice none 0 0)]).length ca2) := by rw [cell_block HB2.out.own]; rfl
  have f1 : w2.frozen? ⟨p, 1, none⟩ = false := frozen_block HB2.out.own 1
  have d0 : w2.cell? ⟨tb, 0, none⟩ = some (.int .i64 kind) := by rw [cell_block HTB2.out]; rfl
  have d1 : w2.cell? ⟨tb, 1, none⟩ = some (.int .i64 at_) := by rw [cell_block HTB2.out]; rfl
  have d2 : w2.cell? ⟨tb, 2, none⟩ = some (.slice qa gaps.length qc) := by rw [cell_block HTB2.out]; rfl
  have HB3 := Lib.hid (HB2.out.kept (((Kept.refl (fun _ => False) w2).alloc (.cells #[.int .i64 kind, .int .i64 at_, .slice qa gaps.length qc] 85)).drew) (fun _ _ h => h))
  have HQ3 := Lib.hid (show ((w2.alloc (.cells #[.int .i64 kind, .int .i64 at_, .slice qa gaps.length qc] 85)).drew).ownsRow 0 3 1 _ _ _ from owns_kept HQ2.out (((Kept.refl (fun _ => False) w2).alloc (.cells #[.int .i64 kind, .int .i64 at_, .slice qa gaps.length qc] 85)).drew) (fun _ _ h => h))
  have c1b : (w2.alloc (.cells #[.int .i64 kind, .int .i64 at_, .slice qa gaps.length qc] 85)).cell? ⟨p, 1, none⟩ = some (.slice a2 (ps ++ [((⟨0, v, []⟩ : Prt), Value.slice none 0 0)]).length ca2) := by rw [← World.cell?_drew, cell_block HB3.out.own]; rfl
  have HAP2 := Lib.hid (show ∀ r ∈ (ps ++ [((⟨0, v, []⟩ : Prt), Value.slice none 0 0)]), r.2.ownBlock = none ∨ r.2.ownBlock ≠ (Value.slice qa gaps.length qc).ownBlock from fun r hr => by
    rcases List.mem_append.1 hr with h | h
    · exact HAP.out r h
    · simp at h; subst h; exact .inl rfl)
  have HF2 := Lib.hid (grown_hF HF.out HK2.out)
  obtain ⟨i0, hi0, hz0, hz1, hz2⟩ := info_parts info85
  generalize hNW : (ps ++ [((⟨0, v, []⟩ : Prt), Value.slice none 0 0)]) = nw at *
  have HNW := Lib.hid hNW
  clear hpl2 hNW
  go_region_law (first
    | (refine step_append_lies _ (by rfl) _ _ _ (by rfl) 0 85 i0 _ 3 40 Try.underlying59 hi0 hz0 hz1 hz2 rfl (by omega) (.slice a2 nw.length ca2) nw.length (partsV nw) (by rfl) ((HB2.out.parts.alloc _).drew) ⟨w2.heap.size, 0, none⟩ 1 1 [.int .i64 kind, .int .i64 at_, .slice qa gaps.length qc] (by rfl) (by rfl) (World.news_of_block (cs := #[.int .i64 kind, .int .i64 at_, .slice qa gaps.length qc]) (t := 85) (fr := (0, 0)) (heap_alloc_new w2 _)) (by simp [Value.oneCell']) (by omega) (by have := HPL.out; simp only [maxLen]; omega) (by have := HPL.out; omega) (by omega) (w2.heap.size + 1) (by simp) ?_; intro gg cap w4 hown1 hgrow hat hlt
       have HT4 := Lib.hid (HB3.out.open_part (⟨kind, at_, gaps⟩, .slice qa gaps.length qc) hown1 hgrow (fun k hk => by simp [Value.ownBlock] at hk; subst hk; rcases hat with h | h; exact HB3.out.fq _ h; exact HF2.out _ (by omega)) HQ3.out HAP2.out HGF.out)
       have K4 : Kept (fun r => (Value.slice a2 nw.length ca2).ownBlock = some r) _ w4 := (Kept.refl _ _).grown hgrow (fun k hk => .inl hk)
       have hp4 := (K4.block p (Array.getElem?_eq_some_iff.1 HB3.out.own).1 (owns_ne HB3.out.parts HB3.out.own (by decide))).trans HB3.out.own
       have cx2 : w4.cell? ⟨p, 1, none⟩ = some (.slice a2 nw.length ca2) := by rw [cell_block hp4]; rfl
       have fx2 : w4.frozen? ⟨p, 1, none⟩ = false := frozen_block hp4 1
       clear K4 hp4 hgrow hown1 hat hlt))
  all_goals go_wp2_with fail
  all_goals (first | go_end0 | skip)
  all_goals (rw [HNW.out]; exact ⟨rfl, ⟨_, HT4.out.1⟩, ((HK2.out.alloc _).drew).trans HT4.out.2⟩)
end
end Go.Proofs.Ytdpoobkfhmmbjaa
