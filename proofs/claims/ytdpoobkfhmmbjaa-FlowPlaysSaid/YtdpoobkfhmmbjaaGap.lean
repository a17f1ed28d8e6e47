/- One gap more in a part: 'p.gaps = append(p.gaps, n)'. -/
import Derived.Test.YtdpoobkfhmmbjaaWhile
import Derived.Deep.QuietTactic
import Derived.BigQuiet
namespace Go.Proofs.Ytdpoobkfhmmbjaa
open Go.RowKit
open Go.MapKept (heap_alloc)
theorem partsV_set (l1 l2 : List (Prt × Value)) (q : Prt) (gv gv' : Value) (gs : List Int) : (partsV (l1 ++ (q, gv) :: l2)).set (l1.length * 3 + 2) gv' = partsV (l1 ++ (⟨q.kind, q.at_, gs⟩, gv') :: l2) := by
  induction l1 with
  | nil => rfl
  | cons x l1 ih =>
    have e : ∀ l, partsV (x :: l) = .int .i64 x.1.kind :: .int .i64 x.1.at_ :: x.2 :: partsV l := fun _ => rfl
    rw [List.cons_append, List.cons_append, e, e, List.length_cons, show (l1.length + 1) * 3 + 2 = l1.length * 3 + 2 + 1 + 1 + 1 by omega]
    simp only [List.set_cons_succ, ih]
section
variable {F : Nat → Prop} {w : World} {p : Nat} {vc vp : Value} {code : List I3}
theorem apart_swap {a b : Value} (h : a.ownBlock = none ∨ a.ownBlock ≠ b.ownBlock) : b.ownBlock = none ∨ b.ownBlock ≠ a.ownBlock := by
  rcases h with h | h
  · cases hb : b.ownBlock with
    | none => exact .inl rfl
    | some k => exact .inr (by rw [h]; simp)
  · exact .inr (Ne.symm h)
theorem Bld.set_gap {g np cp : Nat} {l1 l2 : List (Prt × Value)} {q : Prt} {gv : Value} (B : Bld F w p vc (.slice (some ⟨g, 0, none⟩) np cp) code (l1 ++ (q, gv) :: l2)) {w1 : World} {gv' : Value} (n : Int)
    (own1 : w1.ownsRow 0 3 1 gv' (q.gaps.length + 1) (q.gaps.map intV ++ [intV n])) (gr : w.grownBy w1 gv.ownBlock) (hv : ∀ k, gv'.ownBlock = some k → F k) (hfr : gv'.ownBlock = gv.ownBlock ∨ ∀ k, gv'.ownBlock = some k → w.heap.size ≤ k) :
    Bld F (w1.setCell ⟨g, l1.length * 3 + 2, none⟩ gv') p vc (.slice (some ⟨g, 0, none⟩) np cp) code (l1 ++ (⟨q.kind, q.at_, q.gaps ++ [n]⟩, gv') :: l2) ∧ Kept F w (w1.setCell ⟨g, l1.length * 3 + 2, none⟩ gv') := by
  have hmem : (q, gv) ∈ l1 ++ (q, gv) :: l2 := by simp
  have hgq := B.gaps _ hmem
  have K1 : Kept (fun r => gv.ownBlock = some r) w w1 := (Kept.refl _ w).grown gr (fun k hk => .inl hk)
  have K2 := kept_at w1 ⟨g, l1.length * 3 + 2, none⟩ gv'
  have hgb : (Value.slice (some ⟨g, 0, none⟩) np cp).ownBlock = some g := rfl
  have hpg : p ≠ g := fun h => owns_ne B.parts B.own (by decide) (by rw [hgb, h])
  have hp1 : w1.heap[p]? = some (.cells #[vc, .slice (some ⟨g, 0, none⟩) np cp] 61 (0, 0)) := (K1.block p (Array.getElem?_eq_some_iff.1 B.own).1 (fun h => owns_ne hgq B.own (by decide) h)).trans B.own
  have hoff : ∀ {e : TypeId} {size : Nat} {v : Value} {m : Nat} {xs : List Value}, e ≠ 85 → w1.ownsRow 0 e size v m xs → (w1.setCell ⟨g, l1.length * 3 + 2, none⟩ gv').ownsRow 0 e size v m xs := fun {e size v m xs} he h => by
    refine owns_off h (fun h2 => ?_) _
    have hq1 : w1.ownsRow 0 85 3 (.slice (some ⟨g, 0, none⟩) np cp) (l1 ++ (q, gv) :: l2).length (partsV (l1 ++ (q, gv) :: l2)) := owns_kept B.parts K1 (fun k hk h3 => by
      rcases owns_apart hgq B.parts (by decide) with h4 | h4
      · rw [h4] at h3; cases h3
      · exact h4 (h3.trans hk.symm))
    rcases owns_apart h hq1 he with h4 | h4
    · rw [h4] at h2; cases h2
    · exact h4 (h2.trans hgb.symm)
  have hcode : w1.ownsRow 0 31 3 vc code.length (codeV code) := owns_kept B.code K1 (fun k hk h3 => by
    rcases owns_apart hgq B.code (by decide) with h4 | h4
    · rw [h4] at h3; cases h3
    · exact h4 (h3.trans hk.symm))
  have hparts : w1.ownsRow 0 85 3 (.slice (some ⟨g, 0, none⟩) np cp) (l1 ++ (q, gv) :: l2).length (partsV (l1 ++ (q, gv) :: l2)) := owns_kept B.parts K1 (fun k hk h3 => by
    rcases owns_apart hgq B.parts (by decide) with h4 | h4
    · rw [h4] at h3; cases h3
    · exact h4 (h3.trans hk.symm))
  have hap := B.apart
  rw [List.pairwise_append, List.pairwise_cons] at hap
  have hother : ∀ r, r ∈ l1 ∨ r ∈ l2 → r ∈ l1 ++ (q, gv) :: l2 ∧ (r.2.ownBlock = none ∨ r.2.ownBlock ≠ gv.ownBlock) := fun r hr => by
    rcases hr with hr | hr
    · exact ⟨by simp [hr], hap.2.2 r hr (q, gv) (by simp)⟩
    · exact ⟨by simp [hr], apart_swap (hap.2.1.1 r hr)⟩
  have hnew : ∀ r, r ∈ l1 ∨ r ∈ l2 → r.2.ownBlock = none ∨ r.2.ownBlock ≠ gv'.ownBlock := fun r hr => by
    obtain ⟨h1, h2⟩ := hother r hr
    rcases hfr with h3 | h3
    · rw [h3]; exact h2
    · cases hb : r.2.ownBlock with
      | none => exact .inl rfl
      | some k => exact .inr (fun h4 => by
          have h5 := h3 k h4.symm
          have h6 := owns_lt (B.gaps r h1) hb
          omega)
  have hgs : ∀ r, r ∈ l1 ∨ r ∈ l2 → w1.ownsRow 0 3 1 r.2 r.1.gaps.length (r.1.gaps.map intV) := fun r hr => by
    obtain ⟨h1, h2⟩ := hother r hr
    refine owns_kept (B.gaps r h1) K1 (fun k hk h3 => ?_)
    rcases h2 with h2 | h2
    · rw [h2] at hk; cases hk
    · exact h2 (hk.trans h3.symm)
  refine ⟨⟨(Below.heap_setCell _ _ _ _ hpg).trans hp1, hoff (by decide) hcode, ?_, ?_, ?_, B.fp, B.fc, B.fq, ?_⟩, ?_⟩
  · have := owns_set hparts hgb (l1.length * 3 + 2) gv'
    rw [partsV_set l1 l2 q gv gv' (q.gaps ++ [n])] at this
    simpa using this
  · intro r hr
    rcases List.mem_append.1 hr with h | h
    · exact hoff (by decide) (hgs r (.inl h))
    rcases List.mem_cons.1 h with rfl | h
    · have := hoff (by decide) own1
      simpa [intV] using this
    · exact hoff (by decide) (hgs r (.inr h))
  · rw [List.pairwise_append, List.pairwise_cons]
    refine ⟨hap.1, ⟨fun r hr => apart_swap (hnew r (.inr hr)), hap.2.1.2⟩, fun r hr s hs => ?_⟩
    rcases List.mem_cons.1 hs with rfl | hs
    · exact hnew r (.inl hr)
    · exact hap.2.2 r hr s (by simp [hs])
  · intro r hr
    rcases List.mem_append.1 hr with h | h
    · exact B.fg r (by simp [h])
    rcases List.mem_cons.1 h with rfl | h
    · exact hv
    · exact B.fg r (by simp [h])
  · exact (K1.mono (fun r hr => B.fg _ hmem r hr)).trans (K2.mono (fun r hr => by rw [hr]; exact B.fq g rfl))
end
end Go.Proofs.Ytdpoobkfhmmbjaa
