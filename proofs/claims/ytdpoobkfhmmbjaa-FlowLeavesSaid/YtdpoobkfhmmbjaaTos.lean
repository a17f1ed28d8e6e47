/- The two rows that rhytonref10.Loops makes of each instruction. Plain facts. -/
import Derived.Test.YtdpoobkfhmmbjaaPair
import Derived.Test.YtdpoobkfhmmbjaaTake
namespace Go.Proofs.Ytdpoobkfhmmbjaa
open Go.RowKit
open Go.MapKept (heap_alloc)
section
variable {w w' : World} {base : Nat} {e : TypeId} {size : Nat} {v : Value} {n : Nat} {xs : List Value}
theorem owns_ge (h : w.ownsRow base e size v n xs) {g : Nat} (hg : v.ownBlock = some g) : base ≤ g := by
  rcases h.2 with ⟨rfl, _⟩ | ⟨g', cap, cur, rfl, hb, _⟩
  · simp [Value.ownBlock] at hg
  · simp [Value.ownBlock] at hg; subst hg; exact hb
end
structure Tos (w : World) (base k : Nat) (d : Nat → Int) (TV MV : Value) (TL ML : List Int) : Prop where
  to : w.ownsRow base 3 1 TV TL.length (TL.map intV)
  many : w.ownsRow base 3 1 MV TL.length (ML.map intV)
  len : ML.length = TL.length
  apart : TV.ownBlock = none ∨ TV.ownBlock ≠ MV.ownBlock
  good : ∀ (i : Nat) (t m : Int), TL[i]? = some t → ML[i]? = some m → 0 ≤ t ∧ t < k ∧ m = d t.toNat ∧ 0 ≤ m ∧ m ≤ 1000
theorem Tos.nil (w : World) (base k : Nat) (d : Nat → Int) : Tos w base k d (.slice none 0 0) (.slice none 0 0) [] [] :=
  ⟨World.ownsRow_nil _ _ _ _, World.ownsRow_nil _ _ _ _, rfl, .inl rfl, by intro i t m h; simp at h⟩
theorem Tos.kept {S : Nat → Prop} {w w' : World} {base k : Nat} {d : Nat → Int} {TV MV : Value} {TL ML : List Int} (h : Tos w base k d TV MV TL ML) (K : Kept S w w') (hS : ∀ r, base ≤ r → ¬ S r) : Tos w' base k d TV MV TL ML :=
  ⟨owns_kept h.to K (fun _ hk => hS _ (owns_ge h.to hk)), owns_kept h.many K (fun _ hk => hS _ (owns_ge h.many hk)), h.len, h.apart, h.good⟩
theorem Tos.set {w : World} {base k : Nat} {d : Nat → Int} {TV MV : Value} {TL ML : List Int} (h : Tos w base k d TV MV TL ML) {q : Addr} (hq : q.block < base) (u : Value) : Tos (w.setCell q u) base k d TV MV TL ML :=
  h.kept (kept_at w q u) (fun r hr e => by have : r = q.block := e; omega)
theorem Tos.first {w wa : World} {base k : Nat} {d : Nat → Int} {TV MV : Value} {TL ML : List Int} (h : Tos w base k d TV MV TL ML) {o : Obj} (gr : (w.alloc o).grownBy wa TV.ownBlock) {g : Nat} (hg : TV.ownBlock = some g ∨ g = w.heap.size + 1) :
    wa.ownsRow base 3 1 MV TL.length (ML.map intV) ∧ some g ≠ MV.ownBlock := by
  have K : Kept (fun r => TV.ownBlock = some r) w wa := ((Kept.refl _ w).alloc o).grown gr (fun k hk => .inl hk)
  refine ⟨owns_kept h.many K (fun r hr hs => ?_), fun e => ?_⟩
  · rcases h.apart with h1 | h1
    · rw [h1] at hs; cases hs
    · exact h1 (by rw [hs, hr])
  · rcases hg with hg | hg
    · rcases h.apart with h1 | h1
      · rw [h1] at hg; cases hg
      · exact h1 (by rw [hg, e])
    · have := owns_lt h.many e.symm
      omega
theorem Tos.second {w wa wb : World} {base k : Nat} {d : Nat → Int} {TV MV : Value} {TL ML : List Int} (h : Tos w base k d TV MV TL ML) {g c g2 c2 n1 : Nat} {t m : Int} {o : Obj}
    (o1 : wa.ownsRow base 3 1 (.slice (some ⟨g, 0, none⟩) n1 c) n1 (TL.map intV ++ [.int .i64 t])) (hn : n1 = TL.length + 1) (hne : some g ≠ MV.ownBlock)
    (o2 : wb.ownsRow base 3 1 (.slice (some ⟨g2, 0, none⟩) n1 c2) n1 (ML.map intV ++ [.int .i64 m])) (gr : (wa.alloc o).grownBy wb MV.ownBlock) (hg : MV.ownBlock = some g2 ∨ g2 = wa.heap.size + 1)
    (good : 0 ≤ t ∧ t < k ∧ m = d t.toNat ∧ 0 ≤ m ∧ m ≤ 1000) :
    Tos wb base k d (.slice (some ⟨g, 0, none⟩) n1 c) (.slice (some ⟨g2, 0, none⟩) n1 c2) (TL ++ [t]) (ML ++ [m]) := by
  have K : Kept (fun r => MV.ownBlock = some r) wa wb := ((Kept.refl _ wa).alloc o).grown gr (fun k hk => .inl hk)
  have e1 : n1 = (TL ++ [t]).length := by simp [hn]
  have hgs : (Value.slice (some ⟨g, 0, none⟩) n1 c).ownBlock = some g := by simp [Value.ownBlock]
  refine ⟨?_, ?_, ?_, ?_, ?_⟩
  · rw [← e1]
    rw [List.map_append]
    refine owns_kept o1 K (fun r hr hs => ?_)
    rw [hgs] at hr
    cases hr
    exact hne hs.symm
  · rw [← e1, List.map_append]
    exact o2
  · simp [h.len]
  · refine .inr fun e => ?_
    rw [hgs] at e
    simp only [Value.ownBlock] at e
    have e : g = g2 := by simpa using e
    subst e
    rcases hg with hg | hg
    · exact hne hg.symm
    · have := owns_lt o1 hgs
      omega
  · intro i t' m' h1 h2
    by_cases hi : i < TL.length
    · rw [List.getElem?_append_left hi] at h1
      rw [List.getElem?_append_left (by rw [h.len]; exact hi)] at h2
      exact h.good i t' m' h1 h2
    · rw [List.getElem?_append_right (by omega)] at h1
      rw [List.getElem?_append_right (by rw [h.len]; omega), h.len] at h2
      cases hq : i - TL.length with
      | zero =>
        rw [hq] at h1 h2
        simp at h1 h2
        subst h1 h2
        exact good
      | succ j => rw [hq] at h1; simp at h1
end Go.Proofs.Ytdpoobkfhmmbjaa
