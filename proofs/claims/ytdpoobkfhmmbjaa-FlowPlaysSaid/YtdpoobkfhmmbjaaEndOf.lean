/- The walk of flow.Builder's endOf. -/
import Derived.Test.YtdpoobkfhmmbjaaGap
namespace Go.Proofs.Ytdpoobkfhmmbjaa
open Go.RowKit
open Go.MapKept (heap_alloc)
theorem info3 : (Try.prog.info? 3).map (fun i => (i.zero, i.size, i.bytes)) = some (some (.int .i64 0), 1, 8) := by kernel_rfl
section
variable {F : Nat → Prop} {w : World} {p : Nat} {vc vp : Value} {code : List I3} {ps : List (Prt × Value)}
set_option maxRecDepth 100000 in
set_option maxHeartbeats 4000000 in
theorem endOf_any {q q2 : Prt × Value} (B : Bld F w p vc vp code (ps ++ [q2] ++ [q])) (hF : ∀ r, w.heap.size ≤ r → F r) (hl : code.length < 600) (hpl : ps.length < 90) (hgl : q2.1.gaps.length < 600) (hat : 0 ≤ q.1.at_ ∧ q.1.at_ < code.length) (v : Int) :
    Calls Try.prog 54 #[.pointer (some ⟨p, 0, none⟩), .int .i64 v] w fun e w' => e = .returned (.tuple #[]) ∧ (∃ vp' gv', Bld F w' p vc vp' (setA code q.1.at_.toNat code.length) (ps ++ [(⟨q2.1.kind, q2.1.at_, q2.1.gaps ++ [v]⟩, gv')])) ∧ Kept F w w' := by
  have HT := Lib.hid (then_any B hl hat v)
  have HF := Lib.hid hF
  obtain ⟨⟨kind, at_, gaps⟩, qv⟩ := q2
  obtain ⟨qa, qc, hq, hq1, hq2, hq3⟩ := owns_slice (B.gaps (⟨kind, at_, gaps⟩, qv) (by simp))
  dsimp only at hq hq1 hq2 hq3 hgl
  subst hq
  clear B hF hq3
  dsimp only
  have hw1 : wrap64 ((ps.length : Int)) = (ps.length : Int) := wrap64_in _ (by omega)
  obtain ⟨i0, hi0, hz0, hz1, hz2⟩ := info_parts info3
  go_enter Try.func54, Try.ntmps54
  go_wp2_with (go_at_call 43; refine HT.out.mono ?_; rintro e w1 ⟨rfl, ⟨vp1, B1⟩, K1⟩
               obtain ⟨a, c, hvp, h1, h2, _⟩ := owns_slice B1.parts
               subst hvp
               obtain ⟨g0, g1, g2⟩ := partsV_get (ps ++ [(⟨kind, at_, gaps⟩, .slice qa gaps.length qc)]) ps.length (⟨kind, at_, gaps⟩, .slice qa gaps.length qc) (by simp)
               obtain ⟨g, hg, e2, f2⟩ := owns_cell B1.parts g2
               subst hg
               rw [show (ps ++ [((⟨kind, at_, gaps⟩ : Prt), Value.slice qa gaps.length qc)]).length = ps.length + 1 by simp] at h1 B1
               have c1 : w1.cell? ⟨p, 1, none⟩ = some (.slice (some ⟨g, 0, none⟩) (ps.length + 1) c) := by rw [cell_block B1.own]; rfl
               have HB1 := Lib.hid B1
               have HK1 := Lib.hid K1
               clear B1 K1 g0 g1 g2)
  have hb2 : (0 : Int) ≤ (ps.length : Int) := by omega
  have hb3 : (ps.length : Int) < (ps.length : Int) + 1 := by omega
  have hb4 : ((ps.length : Int)).toNat = ps.length := by omega
  go_quiet (fail)
  all_goals (
    have HBN := Lib.hid (show Bld F (w1.drewN nq) p vc _ _ _ from HB1.out.kept ((Kept.refl (fun _ => False) w1).drewN nq) (fun _ _ h => h))
    have HKN := Lib.hid (HK1.out.drewN nq)
    have e3 : (w1.drewN nq).cell? ⟨g, ps.length * 3 + 2, none⟩ = some (.slice qa gaps.length qc) := e2
    have f3 : (w1.drewN nq).frozen? ⟨g, ps.length * 3 + 2, none⟩ = false := f2
    clear hb2 hb3 hb4 c1 e2 f2
    generalize w1.drewN nq = wn at *
    have HBA := Lib.hid (HBN.out.alloc (.cells #[.int .i64 v] 3))
    have HQA := Lib.hid (HBA.out.gaps (⟨kind, at_, gaps⟩, .slice qa gaps.length qc) (by simp))
    have HXA := Lib.hid (show (wn.alloc (.cells #[.int .i64 v] 3)).cell? ⟨g, ps.length * 3 + 2, none⟩ = some (.slice qa gaps.length qc) ∧ (wn.alloc (.cells #[.int .i64 v] 3)).frozen? ⟨g, ps.length * 3 + 2, none⟩ = false from by
      obtain ⟨_, _, k2⟩ := partsV_get (ps ++ [(⟨kind, at_, gaps⟩, .slice qa gaps.length qc)]) ps.length (⟨kind, at_, gaps⟩, .slice qa gaps.length qc) (by simp)
      have hp := HBA.out.parts
      rw [show (ps ++ [((⟨kind, at_, gaps⟩ : Prt), Value.slice qa gaps.length qc)]).length = ps.length + 1 by simp] at hp
      obtain ⟨g', hg', a1, a2⟩ := owns_cell hp k2
      cases hg'
      exact ⟨a1, a2⟩)
    have HNF := Lib.hid (grown_hF HF.out HKN.out)
    go_wp2_with (first
      | (at_builtin; refine wpList_append_lies _ rfl _ _ _ rfl 0 3 i0 _ 1 8 Try.underlying23 hi0 hz0 hz1 hz2 rfl (by omega) (.slice qa gaps.length qc) gaps.length (gaps.map intV) rfl HQA.out ⟨wn.heap.size, 0, none⟩ 1 1 [.int .i64 v] rfl rfl (World.news_of_block (cs := #[.int .i64 v]) (t := 3) (fr := (0, 0)) (heap_alloc_new wn _)) (by simp [Value.oneCell']) (by omega) (by simp only [maxLen]; omega) (by omega) (by omega) (wn.heap.size + 1) (by simp) ?_; intro gg cap w4 hown1 hgrow hat hlt
         have HT4 := Lib.hid (HBA.out.set_gap v hown1 hgrow (fun k hk => by simp [Value.ownBlock] at hk; subst hk; rcases hat with h | h; exact HBA.out.fg (⟨kind, at_, gaps⟩, .slice qa gaps.length qc) (by simp) _ h; exact HNF.out _ (by omega)) (by
           rcases hat with h | h
           · exact .inl h.symm
           · exact .inr (fun k hk => by simp [Value.ownBlock] at hk; simp; omega)))
         have hne : some g ≠ (Value.slice qa gaps.length qc).ownBlock := fun h => by
           rcases owns_apart HQA.out HBA.out.parts (by decide) with h4 | h4
           · rw [h4] at h; cases h
           · exact h4 h.symm
         have hglt : g < (wn.alloc (.cells #[.int .i64 v] 3)).heap.size := owns_lt HBA.out.parts rfl
         have x1 : w4.cell? ⟨g, ps.length * 3 + 2, none⟩ = some (.slice qa gaps.length qc) := (hgrow.cell_far _ hglt hne).trans HXA.out.1
         have x2 : w4.frozen? ⟨g, ps.length * 3 + 2, none⟩ = false := (hgrow.frozen_far _ hglt hne).trans HXA.out.2
         clear hown1 hgrow hat hlt hne hglt)))
  all_goals (first | go_end0 | skip)
  all_goals exact ⟨rfl, ⟨_, _, HT4.out.1⟩, (HKN.out.alloc _).trans HT4.out.2⟩
end
end Go.Proofs.Ytdpoobkfhmmbjaa
