/- What the walks of the reference's Do share. -/
import Derived.Test.YtdpoobkfhmmbjaaRefPut
import Derived.Test.YtdpoobkfhmmbjaaRefPush
import Derived.Test.YtdpoobkfhmmbjaaRefPop
import Derived.Test.YtdpoobkfhmmbjaaRefCloses
import Derived.Test.YtdpoobkfhmmbjaaRefLeave
import Derived.Test.YtdpoobkfhmmbjaaRefAsks
namespace Go.Proofs.Ytdpoobkfhmmbjaa
open Go.RowKit
open Go.MapKept (heap_alloc)
section
variable {F : Nat → Prop} {w : World} {p : Nat} {vc vp : Value} {code : List I3} {ps : List (Prt × Value)}
theorem RBld.setAt {g n c : Nat} (B : RBld F w p (.slice (some ⟨g, 0, none⟩) n c) vp code ps) (i : Nat) (hi : i < code.length) (v : Int) :
    RBld F (w.setCell ⟨g, i * 3 + 1, none⟩ (.int .i64 v)) p (.slice (some ⟨g, 0, none⟩) n c) vp (setA code i v) ps := by
  have K := kept_at w ⟨g, i * 3 + 1, none⟩ (.int .i64 v)
  have hg : (Value.slice (some ⟨g, 0, none⟩) n c).ownBlock = some g := rfl
  refine ⟨⟨(K.block p (Array.getElem?_eq_some_iff.1 B.b.own).1 (fun h => owns_ne B.b.code B.b.own (by decide) (by rw [hg]; exact congrArg some h.symm))).trans B.b.own, ?_, ?_, ?_⟩, B.fp, B.fc, B.fq, B.fg⟩
  · have := owns_set B.b.code hg (i * 3 + 1) (.int .i64 v)
    rw [codeV_setA _ _ _ hi] at this
    rw [setA_length]
    exact this
  · refine owns_off B.b.parts (fun h => ?_) _
    rcases owns_apart B.b.parts B.b.code (by decide) with h1 | h1
    · rw [h1] at h; cases h
    · exact h1 (h.trans hg.symm)
  · intro q hq
    refine owns_off (B.b.gaps q hq) (fun h => ?_) _
    rcases owns_apart (B.b.gaps q hq) B.b.code (by decide) with h1 | h1
    · rw [h1] at h; cases h
    · exact h1 (h.trans hg.symm)
/-- the cell that 'b.L[i].A' is -/
theorem RBld.cellA (B : RBld F w p vc vp code ps) (i : Nat) (hi : i < code.length) : ∃ g c a, vc = .slice (some ⟨g, 0, none⟩) code.length c ∧ w.cell? ⟨g, i * 3 + 1, none⟩ = some (.int .i64 a) ∧ w.frozen? ⟨g, i * 3 + 1, none⟩ = false ∧ g ≠ p := by
  obtain ⟨a, c, rfl, _, _, _⟩ := owns_slice B.b.code
  obtain ⟨y, hy⟩ : ∃ y, code[i]? = some y := ⟨_, List.getElem?_eq_getElem hi⟩
  obtain ⟨cb, rfl, h1, h2⟩ := owns_cell B.b.code (codeV_get _ i y hy).2.1
  exact ⟨cb, c, _, rfl, h1, h2, fun h => owns_ne B.b.code B.b.own (by decide) (by simp [Value.ownBlock, h])⟩
end
theorem loc_kept {w w' : World} {p N : Nat} {o : Obj} (K : Kept (fun r => r = p) w w') (h : w.heap[N]? = some o) (hne : N ≠ p) : w'.heap[N]? = some o := (K.block _ (Array.getElem?_eq_some_iff.1 h).1 (fun e => hne e)).trans h
theorem gap_kept {w w' : World} {p : Nat} {cs : Array Value} {v : Value} {n : Nat} {xs : List Value} (K : Kept (fun r => r = p) w w') (h : w.ownsRow 0 3 1 v n xs) (hp : w.heap[p]? = some (.cells cs 50 (0, 0))) : w'.ownsRow 0 3 1 v n xs :=
  owns_kept h K (fun _k hk e => owns_ne h hp (by decide) (by rw [hk, e]))
theorem blk_ne {w : World} {a b : Nat} {c1 c2 : Array Value} {t1 t2 : TypeId} (h1 : w.heap[a]? = some (.cells c1 t1 (0, 0))) (h2 : w.heap[b]? = some (.cells c2 t2 (0, 0))) (ht : t1 ≠ t2) : a ≠ b := by
  intro e
  subst e
  rw [h1] at h2
  injection h2 with h3
  injection h3 with _ h4
  exact ht h4
theorem own_int1 {w : World} {g : Nat} {v : Int} (h : w.heap[g]? = some (.cells #[.int .i64 v] 3 (0, 0))) : w.ownsRow 0 3 1 (.slice (some ⟨g, 0, none⟩) 1 1) [v].length ([v].map intV) :=
  ⟨rfl, .inr ⟨g, 1, _, rfl, Nat.zero_le _, h, Nat.le_refl _, by simp [maxLen], rfl, rfl⟩⟩
theorem own_nil {w : World} : w.ownsRow 0 3 1 (.slice none 0 0) ([] : List Int).length (([] : List Int).map intV) := World.ownsRow_nil _ _ _ _
set_option maxRecDepth 100000 in
theorem rput_full {F : Nat → Prop} {w : World} {p : Nat} {vc vp : Value} {code : List I3} {ps : List (Prt × Value)} (B : RBld F w p vc vp code ps) (x : I3) (h : 499 ≤ code.length) :
    Calls Try.prog 21 #[.pointer (some ⟨p, 0, none⟩), .agg (insC x)] w fun e w' => e = .returned (.int .i64 (-8)) ∧ RBld F w' p vc vp code ps ∧ Kept (fun r => r = p) w w' := by
  have BA := B.young ((Kept.refl NB w).alloc (.cells (insC x) 31))
  have HK := Lib.hid ((Kept.refl (fun r => r = p) w).alloc (.cells (insC x) 31))
  obtain ⟨a, c, rfl, h1, h2, h3⟩ := owns_slice B.b.code
  have c1 : (w.alloc (.cells (insC x) 31)).cell? ⟨p, 0, none⟩ = some (.slice a code.length c) := by rw [cell_block BA.b.own]; rfl
  have HB := Lib.hid BA
  unfold insC at *
  clear B h3 BA
  go_enter Try.func21, Try.ntmps21
  go_wp2_with fail
  all_goals (first | go_ret | skip)
  all_goals exact ⟨rfl, HB.out, HK.out⟩
end Go.Proofs.Ytdpoobkfhmmbjaa
