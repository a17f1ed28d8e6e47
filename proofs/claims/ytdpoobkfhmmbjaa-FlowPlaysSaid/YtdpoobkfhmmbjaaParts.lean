/- The walks of flow.Builder's take, open, close. -/
import Derived.Test.YtdpoobkfhmmbjaaPut
namespace Go.Proofs.Ytdpoobkfhmmbjaa
open Go.RowKit
section
variable {F : Nat → Prop} {w : World} {p : Nat} {vc vp : Value} {code : List I3} {ps : List (Prt × Value)}
theorem partsV_length (ps : List (Prt × Value)) : (partsV ps).length = ps.length * 3 := by
  induction ps with
  | nil => rfl
  | cons q ps ih => simp [partsV, partV] at ih ⊢; omega
theorem codeV_length (c : List I3) : (codeV c).length = c.length * 3 := by
  induction c with
  | nil => rfl
  | cons q ps ih => simp [codeV, insV] at ih ⊢; omega
end
/-- The cells of a row that is owned. -/
theorem owns_cell {w : World} {base : Nat} {e : TypeId} {size : Nat} {a : Option Addr} {n c : Nat} {xs : List Value} (h : w.ownsRow base e size (.slice a n c) n xs) {j : Nat} {u : Value} (hj : xs[j]? = some u) : ∃ g, a = some ⟨g, 0, none⟩ ∧ w.cell? ⟨g, j, none⟩ = some u ∧ w.frozen? ⟨g, j, none⟩ = false := by
  rcases h.2 with ⟨h1, h2⟩ | ⟨g, cap, cur, h1, hb, hgg, hn, hm, hs, ht⟩
  · have := h.1
    rw [h2] at this
    simp at this
    subst this
    cases hj
  · injection h1 with h3 h4 h5
    refine ⟨g, h3, ?_, frozen_block hgg j⟩
    rw [cell_block hgg]
    rw [← ht, List.getElem?_take] at hj
    split at hj
    · simpa using hj
    · cases hj
theorem partsV_get (ps : List (Prt × Value)) (j : Nat) (q : Prt × Value) (h : ps[j]? = some q) : (partsV ps)[j * 3]? = some (.int .i64 q.1.kind) ∧ (partsV ps)[j * 3 + 1]? = some (.int .i64 q.1.at_) ∧ (partsV ps)[j * 3 + 2]? = some q.2 := by
  induction ps generalizing j with
  | nil => simp at h
  | cons x ps ih =>
    have e : partsV (x :: ps) = .int .i64 x.1.kind :: .int .i64 x.1.at_ :: x.2 :: partsV ps := rfl
    rw [e]
    cases j with
    | zero => simp at h; subst h; exact ⟨rfl, rfl, rfl⟩
    | succ j =>
      obtain ⟨a, b, c⟩ := ih j (by simpa using h)
      rw [show (j + 1) * 3 = j * 3 + 1 + 1 + 1 by omega]
      exact ⟨by simpa using a, by simpa using b, by simpa using c⟩
theorem codeV_get (c : List I3) (j : Nat) (x : I3) (h : c[j]? = some x) : (codeV c)[j * 3]? = some (.int .u8 x.1) ∧ (codeV c)[j * 3 + 1]? = some (.int .i64 x.2.1) ∧ (codeV c)[j * 3 + 2]? = some (.int .i64 x.2.2) := by
  induction c generalizing j with
  | nil => simp at h
  | cons y c ih =>
    have e : codeV (y :: c) = .int .u8 y.1 :: .int .i64 y.2.1 :: .int .i64 y.2.2 :: codeV c := rfl
    rw [e]
    cases j with
    | zero => simp at h; subst h; exact ⟨rfl, rfl, rfl⟩
    | succ j =>
      obtain ⟨a, b, d⟩ := ih j (by simpa using h)
      rw [show (j + 1) * 3 = j * 3 + 1 + 1 + 1 by omega]
      exact ⟨by simpa using a, by simpa using b, by simpa using d⟩
theorem partsV_append (ps qs : List (Prt × Value)) : partsV (ps ++ qs) = partsV ps ++ partsV qs := by simp [partsV]
/-- behind 'b.parts = b.parts[:last]' -/
theorem Bld.cut {F : Nat → Prop} {w : World} {p : Nat} {vc : Value} {a : Option Addr} {n c : Nat} {code : List I3} {ps : List (Prt × Value)} {q : Prt × Value} (B : Bld F w p vc (.slice a n c) code (ps ++ [q])) :
    Bld F (w.setCell ⟨p, 1, none⟩ (.slice a ps.length c)) p vc (.slice a ps.length c) code ps ∧ Kept F w (w.setCell ⟨p, 1, none⟩ (.slice a ps.length c)) := by
  have K2 := kept_at w ⟨p, 1, none⟩ (.slice a ps.length c)
  have hne : ∀ {e : TypeId} {size : Nat} {v : Value} {m : Nat} {xs : List Value}, e ≠ 61 → w.ownsRow 0 e size v m xs → (w.setCell ⟨p, 1, none⟩ (.slice a ps.length c)).ownsRow 0 e size v m xs := fun he h => owns_kept h K2 (fun k hk h4 => owns_ne h B.own he (by rw [hk]; exact congrArg some h4))
  have hp : w.ownsRow 0 85 3 (.slice a ps.length c) ps.length (partsV ps) := by
    rcases B.parts.2 with ⟨h1, h2⟩ | ⟨g, cap, cur, h1, hb, hgg, hn, hm, hs, ht⟩
    · simp at h2
    · injection h1 with h3 h4 h5
      subst h3; subst h5
      refine ⟨by rw [partsV_length], .inr ⟨g, c, cur, rfl, hb, hgg, by simp at hn; omega, hm, hs, ?_⟩⟩
      have e := congrArg (List.take (ps.length * 3)) ht
      have l := partsV_length ps
      rw [List.take_take, partsV_append, List.take_append_of_le_length (by omega), show List.take (ps.length * 3) (partsV ps) = partsV ps from List.take_of_length_le (by omega), Nat.min_eq_left (by simp; omega)] at e
      exact e
  refine ⟨⟨own_set1 B.own, hne (by decide) B.code, hne (by decide) hp, fun r hr => hne (by decide) (B.gaps r (by simp [hr])), (List.pairwise_append.1 B.apart).1, B.fp, B.fc, ?_, fun r hr => B.fg r (by simp [hr])⟩, K2.mono (fun r hr => by rw [hr]; exact B.fp)⟩
  intro k hk
  cases a with
  | none => simp [Value.ownBlock] at hk
  | some x => exact B.fq k hk
end Go.Proofs.Ytdpoobkfhmmbjaa
