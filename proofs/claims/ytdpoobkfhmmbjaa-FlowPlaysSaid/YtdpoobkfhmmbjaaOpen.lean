/- The walk of flow.Builder's open. -/
import Derived.Test.YtdpoobkfhmmbjaaTake
namespace Go.Proofs.Ytdpoobkfhmmbjaa
open Go.RowKit
section
variable {F : Nat → Prop} {w : World} {p : Nat} {vc vp : Value} {code : List I3} {ps : List (Prt × Value)}
/-- behind 'b.parts = append(b.parts, q)' -/
theorem Bld.open_part (B : Bld F w p vc vp code ps) {w1 : World} {v' : Value} (q : Prt × Value) (own1 : w1.ownsRow 0 85 3 v' (ps.length + 1) (partsV ps ++ partV q)) (g : w.grownBy w1 vp.ownBlock) (hv : ∀ k, v'.ownBlock = some k → F k)
    (hq : w.ownsRow 0 3 1 q.2 q.1.gaps.length (q.1.gaps.map intV)) (ha : ∀ r ∈ ps, r.2.ownBlock = none ∨ r.2.ownBlock ≠ q.2.ownBlock) (hqF : ∀ k, q.2.ownBlock = some k → F k) :
    Bld F (w1.setCell ⟨p, 1, none⟩ v') p vc v' code (ps ++ [q]) ∧ Kept F w (w1.setCell ⟨p, 1, none⟩ v') := by
  have K1 : Kept (fun r => vp.ownBlock = some r) w w1 := (Kept.refl _ w).grown g (fun k hk => .inl hk)
  have hp := Array.getElem?_eq_some_iff.1 B.own
  have hp1 : w1.heap[p]? = some (.cells #[vc, vp] 61 (0, 0)) := (K1.block p hp.1 (owns_ne B.parts B.own (by decide))).trans B.own
  have hc1 : w1.ownsRow 0 31 3 vc code.length (codeV code) := owns_kept B.code K1 (fun k hk h => by
    rcases owns_apart B.code B.parts (by decide) with h1 | h1
    · rw [h1] at hk; cases hk
    · exact h1 (hk.trans h.symm))
  have hany : ∀ {r : Prt × Value}, w.ownsRow 0 3 1 r.2 r.1.gaps.length (r.1.gaps.map intV) → w1.ownsRow 0 3 1 r.2 r.1.gaps.length (r.1.gaps.map intV) := fun hr => owns_kept hr K1 (fun k hk h => by
    rcases owns_apart B.parts hr (by decide) with h1 | h1
    · rw [h1] at h; cases h
    · exact h1 (h.trans hk.symm))
  have K2 := kept_at w1 ⟨p, 1, none⟩ v'
  have hne : ∀ {e : TypeId} {size : Nat} {v : Value} {m : Nat} {xs : List Value}, e ≠ 61 → w1.ownsRow 0 e size v m xs → (w1.setCell ⟨p, 1, none⟩ v').ownsRow 0 e size v m xs := fun he h => owns_kept h K2 (fun k hk h4 => owns_ne h hp1 he (by rw [hk]; exact congrArg some h4))
  refine ⟨⟨own_set1 hp1, hne (by decide) hc1, ?_, ?_, ?_, B.fp, B.fc, hv, ?_⟩, ?_⟩
  · have := hne (by decide) own1
    simpa [partsV, List.flatMap_append] using this
  · intro r hr
    rcases List.mem_append.1 hr with h | h
    · exact hne (by decide) (hany (B.gaps r h))
    · obtain rfl : r = q := by simpa using h
      exact hne (by decide) (hany hq)
  · exact List.pairwise_append.2 ⟨B.apart, List.pairwise_singleton _ _, fun r hr s hs => by
      obtain rfl : s = q := by simpa using hs
      exact ha r hr⟩
  · intro r hr
    rcases List.mem_append.1 hr with h | h
    · exact B.fg r h
    · obtain rfl : r = q := by simpa using h
      exact hqF
  · exact (K1.mono (fun r hr => B.fq r hr)).trans (K2.mono (fun r hr => by rw [hr]; exact B.fp))
end
theorem info85 : (Try.prog.info? 85).map (fun i => (i.zero, i.size, i.bytes)) = some (some (.agg #[.int .i64 0, .int .i64 0, .slice none 0 0]), 3, 40) := by kernel_rfl
set_option maxRecDepth 100000 in
set_option maxHeartbeats 2000000 in
theorem open_room {F : Nat → Prop} {w : World} {p : Nat} {vc vp : Value} {code : List I3} {ps : List (Prt × Value)} (B : Bld F w p vc vp code ps) (hF : ∀ r, w.heap.size ≤ r → F r) (kind at_ : Int) (gaps : List Int) (gv : Value) (h : ps.length < 99)
    (hq : w.ownsRow 0 3 1 gv gaps.length (gaps.map intV)) (ha : ∀ r ∈ ps, r.2.ownBlock = none ∨ r.2.ownBlock ≠ gv.ownBlock) (hqF : ∀ k, gv.ownBlock = some k → F k) :
    Calls Try.prog 41 #[.pointer (some ⟨p, 0, none⟩), .int .i64 kind, .int .i64 at_, gv] w fun e w' => e = .returned (.tuple #[]) ∧ (∃ vp', Bld F w' p vc vp' code (ps ++ [(⟨kind, at_, gaps⟩, gv)])) ∧ Kept F w w' := by
  obtain ⟨qa, qc, hqv, hq1, hq2, hq3⟩ := owns_slice hq
  subst hqv
  obtain ⟨a, c, rfl, h1, h2, h3⟩ := owns_slice B.parts
  have c1 : w.cell? ⟨p, 1, none⟩ = some (.slice a ps.length c) := by rw [cell_block B.own]; rfl
  have HB := Lib.hid B
  have HBA := Lib.hid (B.alloc (.cells #[.int .i64 kind, .int .i64 at_, .slice qa gaps.length qc] 85))
  have HK := Lib.hid ((Kept.refl F w).alloc (.cells #[.int .i64 kind, .int .i64 at_, .slice qa gaps.length qc] 85))
  have HQ := Lib.hid (owns_kept (w' := w.alloc (.cells #[.int .i64 kind, .int .i64 at_, .slice qa gaps.length qc] 85)) hq ((Kept.refl (fun _ => False) w).alloc _) (fun _ _ h => h))
  have HF := Lib.hid hF
  have HA := Lib.hid ha
  have HQF := Lib.hid hqF
  clear B h3 hq3 hF ha hqF hq
  obtain ⟨i0, hi0, hz0, hz1, hz2⟩ := info_parts info85
  go_enter Try.func41, Try.ntmps41
  go_wp2_with (first
    | (at_builtin; refine wpList_append_lies _ rfl _ _ _ rfl 0 85 i0 _ 3 40 Try.underlying59 hi0 hz0 hz1 hz2 rfl (by omega) (.slice a ps.length c) ps.length (partsV ps) rfl HBA.out.parts ⟨w.heap.size, 0, none⟩ 1 1 [.int .i64 kind, .int .i64 at_, .slice qa gaps.length qc] rfl rfl (World.news_of_block (cs := #[.int .i64 kind, .int .i64 at_, .slice qa gaps.length qc]) (t := 85) (fr := (0, 0)) (heap_alloc_new w _)) (by simp [Value.oneCell']) (by omega) (by simp only [maxLen]; omega) (by omega) (by omega) w.heap.size.succ (by simp) ?_; intro gg cap w1 hown1 hgrow hat hlt
       have HT := Lib.hid (HBA.out.open_part (⟨kind, at_, gaps⟩, .slice qa gaps.length qc) hown1 hgrow (fun k hk => by simp [Value.ownBlock] at hk; subst hk; rcases hat with h | h; exact HBA.out.fq _ h; exact HF.out _ (by omega)) HQ.out HA.out HQF.out)
       have K1 : Kept (fun r => (Value.slice a ps.length c).ownBlock = some r) _ w1 := (Kept.refl _ _).grown hgrow (fun k hk => .inl hk)
       have hp1 := (K1.block p (Array.getElem?_eq_some_iff.1 HBA.out.own).1 (owns_ne HBA.out.parts HBA.out.own (by decide))).trans HBA.out.own
       have c2 : w1.cell? ⟨p, 1, none⟩ = some (.slice a ps.length c) := by rw [cell_block hp1]; rfl
       have f2 : w1.frozen? ⟨p, 1, none⟩ = false := frozen_block hp1 1
       clear K1 hp1 hgrow hown1 hat hlt))
  all_goals (first | go_end0 | skip)
  all_goals exact ⟨rfl, ⟨_, HT.out.1⟩, HK.out.trans HT.out.2⟩
end Go.Proofs.Ytdpoobkfhmmbjaa
