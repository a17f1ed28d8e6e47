/- The walk of flow.Builder's take. -/
import Derived.Test.YtdpoobkfhmmbjaaParts
import Derived.Handy
namespace Go.Proofs.Ytdpoobkfhmmbjaa
open Go.RowKit
theorem wrap64_in (n : Int) (h : -9223372036854775808 ≤ n ∧ n ≤ 9223372036854775807) : wrap64 n = n := by unfold wrap64; omega
section
variable {F G : Nat → Prop} {w : World} {p : Nat} {vc vp : Value} {code : List I3} {ps : List (Prt × Value)}
theorem owns_lt {base : Nat} {e : TypeId} {size : Nat} {v : Value} {n : Nat} {xs : List Value} (h : w.ownsRow base e size v n xs) {k : Nat} (hk : v.ownBlock = some k) : k < w.heap.size := by
  obtain ⟨c, h1⟩ := owns_block h hk
  exact (Array.getElem?_eq_some_iff.1 h1).1
/-- The builder's blocks are there. -/
theorem Bld.tight (B : Bld F w p vc vp code ps) : Bld (fun r => F r ∧ r < w.heap.size) w p vc vp code ps :=
  ⟨B.own, B.code, B.parts, B.gaps, B.apart, ⟨B.fp, (Array.getElem?_eq_some_iff.1 B.own).1⟩, fun k hk => ⟨B.fc k hk, owns_lt B.code hk⟩, fun k hk => ⟨B.fq k hk, owns_lt B.parts hk⟩, fun q hq k hk => ⟨B.fg q hq k hk, owns_lt (B.gaps q hq) hk⟩⟩
theorem Bld.mono (B : Bld F w p vc vp code ps) (h : ∀ r, F r → G r) : Bld G w p vc vp code ps :=
  ⟨B.own, B.code, B.parts, B.gaps, B.apart, h _ B.fp, fun k hk => h _ (B.fc k hk), fun k hk => h _ (B.fq k hk), fun q hq k hk => h _ (B.fg q hq k hk)⟩
theorem Bld.setOff (B : Bld F w p vc vp code ps) {q : Addr} (hq : ¬ F q.block) (u : Value) : Bld F (w.setCell q u) p vc vp code ps := B.kept (kept_at w q u) (fun _r hr h => hq (h ▸ hr))
theorem owns_off {base : Nat} {e : TypeId} {size : Nat} {v : Value} {n : Nat} {xs : List Value} (h : w.ownsRow base e size v n xs) {q : Addr} (hq : v.ownBlock ≠ some q.block) (u : Value) : (w.setCell q u).ownsRow base e size v n xs := owns_kept h (kept_at w q u) (fun k hk h2 => hq (by rw [hk]; exact congrArg some h2))
end
set_option maxRecDepth 100000 in
set_option maxHeartbeats 2000000 in
theorem take_any {F : Nat → Prop} {w : World} {p : Nat} {vc vp : Value} {code : List I3} {ps : List (Prt × Value)} {q : Prt × Value} (B : Bld F w p vc vp code (ps ++ [q])) :
    Calls Try.prog 64 #[.pointer (some ⟨p, 0, none⟩)] w fun e w' => e = .returned (.agg #[.int .i64 q.1.kind, .int .i64 q.1.at_, q.2]) ∧ (∃ vp', Bld F w' p vc vp' code ps) ∧ Kept F w w' ∧ w'.ownsRow 0 3 1 q.2 q.1.gaps.length (q.1.gaps.map intV) := by
  obtain ⟨⟨kind, at_, gaps⟩, qv⟩ := q
  obtain ⟨qa, qc, hq, hq1, hq2, hq3⟩ := owns_slice (B.gaps (⟨kind, at_, gaps⟩, qv) (by simp))
  dsimp only at hq hq1 hq2 hq3
  subst hq
  obtain ⟨a, c, rfl, h1, h2, h3⟩ := owns_slice B.parts
  rw [show (ps ++ [((⟨kind, at_, gaps⟩ : Prt), Value.slice qa gaps.length qc)]).length = ps.length + 1 by simp] at *
  have hp := (Array.getElem?_eq_some_iff.1 B.own).1
  have BT := B.tight
  have BA := BT.alloc (.cells #[.int .i64 0, .int .i64 0, .slice none 0 0] 85)
  have BB := BA.alloc (.cells #[.int .i64 kind, .int .i64 at_, .slice qa gaps.length qc] 85)
  have HCut := Lib.hid BB.cut
  have HQ := Lib.hid (BB.gaps (⟨kind, at_, gaps⟩, .slice qa gaps.length qc) (by simp))
  have HL := Lib.hid (show ∀ k, (Value.slice qa gaps.length qc).ownBlock = some k → k ≠ p ∧ k < w.heap.size from fun k hk => ⟨fun h => owns_ne (B.gaps (⟨kind, at_, gaps⟩, .slice qa gaps.length qc) (by simp)) B.own (by decide) (by rw [hk, h]), owns_lt (B.gaps (⟨kind, at_, gaps⟩, .slice qa gaps.length qc) (by simp)) hk⟩)
  have HK := Lib.hid (((Kept.refl F w).alloc (.cells #[.int .i64 0, .int .i64 0, .slice none 0 0] 85)).alloc (.cells #[.int .i64 kind, .int .i64 at_, .slice qa gaps.length qc] 85))
  obtain ⟨g0, g1, g2⟩ := partsV_get (ps ++ [(⟨kind, at_, gaps⟩, .slice qa gaps.length qc)]) ps.length (⟨kind, at_, gaps⟩, .slice qa gaps.length qc) (by simp)
  have hpA := BA.parts
  rw [show (ps ++ [((⟨kind, at_, gaps⟩ : Prt), Value.slice qa gaps.length qc)]).length = ps.length + 1 by simp] at hpA
  obtain ⟨g, hg, e0, _⟩ := owns_cell hpA g0
  obtain ⟨g', hg', e1, _⟩ := owns_cell hpA g1
  obtain ⟨g'', hg'', e2, _⟩ := owns_cell hpA g2
  subst hg
  cases hg'
  cases hg''
  have c1 : (w.alloc (.cells #[.int .i64 0, .int .i64 0, .slice none 0 0] 85)).cell? ⟨p, 1, none⟩ = some (.slice (some ⟨g, 0, none⟩) (ps.length + 1) c) := by rw [cell_block BA.own]; rfl
  have c2 : ((w.alloc (.cells #[.int .i64 0, .int .i64 0, .slice none 0 0] 85)).alloc (.cells #[.int .i64 kind, .int .i64 at_, .slice qa gaps.length qc] 85)).cell? ⟨p, 1, none⟩ = some (.slice (some ⟨g, 0, none⟩) (ps.length + 1) c) := by rw [cell_block BB.own]; rfl
  have f2 : ((w.alloc (.cells #[.int .i64 0, .int .i64 0, .slice none 0 0] 85)).alloc (.cells #[.int .i64 kind, .int .i64 at_, .slice qa gaps.length qc] 85)).frozen? ⟨p, 1, none⟩ = false := frozen_block BB.own 1
  have n1 : ¬ p = w.heap.size := by omega
  have n2 : ¬ w.heap.size = p := by omega
  have n3 : ¬ p = w.heap.size + 1 := by omega
  have n4 : ¬ w.heap.size + 1 = p := by omega
  dsimp only at e0 e1 e2
  have hw : wrap64 (ps.length : Int) = (ps.length : Int) := wrap64_in _ (by simp only [maxLen] at h2; omega)
  clear B BT h3 BA BB hq3 hpA g0 g1 g2 hp
  go_enter Try.func64, Try.ntmps64
  go_wp2_with fail
  go_returns
  have hnp : ∀ k, (Value.slice qa gaps.length qc).ownBlock = some k → k ≠ p ∧ k < w.heap.size := HL.out
  refine ⟨rfl, ⟨_, (((HCut.out.1.setOff (q := ⟨w.heap.size, 0, none⟩) (fun h => Nat.lt_irrefl _ h.2) _).setOff (q := ⟨w.heap.size, 1, none⟩) (fun h => Nat.lt_irrefl _ h.2) _).setOff (q := ⟨w.heap.size, 2, none⟩) (fun h => Nat.lt_irrefl _ h.2) _).mono (fun r hr => hr.1)⟩, ?_, ?_⟩
  · exact (((HK.out.trans (HCut.out.2.mono (fun r hr => hr.1))).setCell (.inr (Nat.le_refl _)) _).setCell (.inr (Nat.le_refl _)) _).setCell (.inr (Nat.le_refl _)) _
  · exact owns_off (owns_off (owns_off (owns_off HQ.out (fun h => (hnp _ h).1 rfl) _) (fun h => Nat.lt_irrefl _ (hnp _ h).2) _) (fun h => Nat.lt_irrefl _ (hnp _ h).2) _) (fun h => Nat.lt_irrefl _ (hnp _ h).2) _
end Go.Proofs.Ytdpoobkfhmmbjaa
