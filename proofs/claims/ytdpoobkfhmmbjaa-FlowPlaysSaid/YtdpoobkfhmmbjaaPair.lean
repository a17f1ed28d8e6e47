/- Walks over rhytonref02's pairs. -/
import Derived.Test.YtdpoobkfhmmbjaaLib
import Derived.Handy
import Derived.MapKept
namespace Go.Proofs.Ytdpoobkfhmmbjaa
open Go.RowKit
abbrev P2 := Int × Int
abbrev u64 (n : Int) : Int := IntKind.u64.wrap n
def NB : Nat → Prop := fun _ => False
def pV (a : P2) : Value := .agg #[.int .i64 a.1, .int .i64 a.2]
def pAdd (a b : P2) : P2 := (wrap64 (a.1 + b.1), if u64 (wrap64 (a.1 + b.1)) < u64 a.1 then wrap64 (wrap64 (a.2 + b.2) + 1) else wrap64 (a.2 + b.2))
def pNeg (a : P2) : P2 := pAdd (wrap64 (-1 - a.1), wrap64 (-1 - a.2)) (1, 0)
def pLess (a b : P2) : Bool := if (a.2 != b.2) = true then decide (u64 a.2 < u64 b.2) else decide (u64 a.1 < u64 b.1)
theorem below_any (a b : Int) (w : World) : Calls Try.prog 69 #[.int .i64 a, .int .i64 b] w fun e w' => e = .returned (.bool (decide (u64 a < u64 b))) ∧ w = w' := by
  go_enter Try.func69, Try.ntmps69
  go_wp2
  go_ret
  exact ⟨rfl, rfl⟩
set_option maxRecDepth 100000 in
theorem add_any (a b : P2) (w : World) : Calls Try.prog 67 #[.agg #[.int .i64 a.1, .int .i64 a.2], .agg #[.int .i64 b.1, .int .i64 b.2]] w fun e w' => e = .returned (.agg #[.int .i64 (pAdd a b).1, .int .i64 (pAdd a b).2]) ∧ Kept NB w w' := by
  obtain ⟨a1, a2⟩ := a
  obtain ⟨b1, b2⟩ := b
  have HB := Lib.hid (fun w => below_any (wrap64 (a1 + b1)) a1 w)
  by_cases h : u64 (wrap64 (a1 + b1)) < u64 a1
  · have e1 : pAdd (a1, a2) (b1, b2) = (wrap64 (a1 + b1), wrap64 (wrap64 (a2 + b2) + 1)) := by simp [pAdd, h]
    rw [e1]
    have hd : decide (u64 (wrap64 (a1 + b1)) < u64 a1) = true := by simpa using h
    go_enter Try.func67, Try.ntmps67
    go_wp2_with (go_at_call 69; refine (HB.out _).mono ?_; rintro e w1 ⟨rfl, rfl⟩; rw [hd])
    all_goals go_returns
    all_goals exact ⟨rfl, (((Kept.refl NB w).alloc _).alloc _).alloc _⟩
  · have e1 : pAdd (a1, a2) (b1, b2) = (wrap64 (a1 + b1), wrap64 (a2 + b2)) := by simp [pAdd, h]
    rw [e1]
    have hd : decide (u64 (wrap64 (a1 + b1)) < u64 a1) = false := by simpa using h
    go_enter Try.func67, Try.ntmps67
    go_wp2_with (go_at_call 69; refine (HB.out _).mono ?_; rintro e w1 ⟨rfl, rfl⟩; rw [hd])
    all_goals go_returns
    all_goals exact ⟨rfl, (((Kept.refl NB w).alloc _).alloc _).alloc _⟩
theorem box2_set {w1 : World} {b : Nat} {u v : Value} {t : TypeId} (hb : w1.heap[b]? = some (.cells #[u, v] t (0, 0))) (x y : Value) :
    ((w1.setCell ⟨b, 0, none⟩ x).setCell ⟨b, 1, none⟩ y).heap[b]? = some (.cells #[x, y] t (0, 0)) ∧ w1.cell? ⟨b, 0, none⟩ = some u ∧ w1.frozen? ⟨b, 0, none⟩ = false ∧ (w1.setCell ⟨b, 0, none⟩ x).cell? ⟨b, 1, none⟩ = some v ∧ (w1.setCell ⟨b, 0, none⟩ x).frozen? ⟨b, 1, none⟩ = false ∧
    ((w1.setCell ⟨b, 0, none⟩ x).setCell ⟨b, 1, none⟩ y).cell? ⟨b, 0, none⟩ = some x ∧ ((w1.setCell ⟨b, 0, none⟩ x).setCell ⟨b, 1, none⟩ y).cell? ⟨b, 1, none⟩ = some y := by
  have h1 : (w1.setCell ⟨b, 0, none⟩ x).heap[b]? = some (.cells #[x, v] t (0, 0)) := by
    rw [setCell_eq_setRow w1 b 0 _ _ _ _ hb, setRow_heap w1 b _ _ _ _ hb]; rfl
  have h2 : ((w1.setCell ⟨b, 0, none⟩ x).setCell ⟨b, 1, none⟩ y).heap[b]? = some (.cells #[x, y] t (0, 0)) := by
    rw [setCell_eq_setRow _ b 1 _ _ _ _ h1, setRow_heap _ b _ _ _ _ h1]; rfl
  exact ⟨h2, by rw [cell_block hb]; rfl, frozen_block hb 0, by rw [cell_block h1]; rfl, frozen_block h1 1, by rw [cell_block h2]; rfl, by rw [cell_block h2]; rfl⟩
theorem box2_new {S : Nat → Prop} (w w' : World) (o1 o2 : Obj) (K : Kept S ((w.alloc o1).alloc o2) w') (h : ¬ S (w.heap.size + 1)) : w'.heap[w.heap.size + 1]? = some o2 := by
  refine (K.block _ (by simp) h).trans ?_
  have := (MapKept.heap_alloc (w.alloc o1) o2).1
  rwa [World.size_alloc] at this
set_option maxRecDepth 100000 in
theorem twice_any (a : P2) (w : World) : Calls Try.prog 71 #[.agg #[.int .i64 a.1, .int .i64 a.2]] w fun e w' => e = .returned (.agg #[.int .i64 (pAdd a a).1, .int .i64 (pAdd a a).2]) ∧ Kept NB w w' := by
  have HA := Lib.hid (fun w => add_any a a w)
  obtain ⟨a1, a2⟩ := a
  generalize pAdd (a1, a2) (a1, a2) = r at *
  obtain ⟨r1, r2⟩ := r
  go_enter Try.func71, Try.ntmps71
  go_wp2_with (go_at_call 67; refine (HA.out _).mono ?_; rintro e w1 ⟨rfl, K1⟩
               have hb := box2_new w w1 _ _ K1 (fun h => h)
               obtain ⟨_, y1, y2, y3, y4, y5, y6⟩ := box2_set hb (.int .i64 r1) (.int .i64 r2)
               have HK := Lib.hid ((((Kept.refl NB w).alloc _).alloc _).trans K1))
  all_goals (refine bodyPost_ret (v := .agg #[.int .i64 r1, .int .i64 r2]) (by simp [results, Try.results71, go_sem, y5, y6]) rfl ?_)
  all_goals exact ⟨rfl, (HK.out.setCell (.inr (by simp)) _).setCell (.inr (by simp)) _⟩
set_option maxRecDepth 100000 in
theorem neg_any (a : P2) (w : World) : Calls Try.prog 59 #[.agg #[.int .i64 a.1, .int .i64 a.2]] w fun e w' => e = .returned (.agg #[.int .i64 (pNeg a).1, .int .i64 (pNeg a).2]) ∧ Kept NB w w' := by
  obtain ⟨a1, a2⟩ := a
  have HA := Lib.hid (fun w => add_any (wrap64 (-1 - a1), wrap64 (-1 - a2)) (1, 0) w)
  unfold pNeg
  generalize pAdd (wrap64 (-1 - a1), wrap64 (-1 - a2)) (1, 0) = r at *
  obtain ⟨r1, r2⟩ := r
  go_enter Try.func59, Try.ntmps59
  go_wp2_with (go_at_call 67; refine (HA.out _).mono ?_; rintro e w1 ⟨rfl, K1⟩
               have hb := box2_new w w1 _ _ K1 (fun h => h)
               obtain ⟨_, y1, y2, y3, y4, y5, y6⟩ := box2_set hb (.int .i64 r1) (.int .i64 r2)
               have HK := Lib.hid ((((Kept.refl NB w).alloc _).alloc _).trans K1))
  all_goals (refine bodyPost_ret (v := .agg #[.int .i64 r1, .int .i64 r2]) (by simp [results, Try.results59, go_sem, y5, y6]) rfl ?_)
  all_goals exact ⟨rfl, (HK.out.setCell (.inr (by simp)) _).setCell (.inr (by simp)) _⟩
set_option maxRecDepth 100000 in
theorem less_any (a b : P2) (w : World) : Calls Try.prog 72 #[.agg #[.int .i64 a.1, .int .i64 a.2], .agg #[.int .i64 b.1, .int .i64 b.2]] w fun e w' => e = .returned (.bool (pLess a b)) ∧ Kept NB w w' := by
  obtain ⟨a1, a2⟩ := a
  obtain ⟨b1, b2⟩ := b
  have HB := Lib.hid below_any
  cases h : (a2 != b2) with
  | true =>
    have e1 : pLess (a1, a2) (b1, b2) = decide (u64 a2 < u64 b2) := by simp only [pLess, h, if_true]
    rw [e1]
    go_enter Try.func72, Try.ntmps72
    go_wp2_with (go_at_call 69; refine (HB.out _ _ _).mono ?_; rintro e w1 ⟨rfl, rfl⟩)
    all_goals (first | go_ret | skip)
    all_goals exact ⟨rfl, ((Kept.refl NB w).alloc _).alloc _⟩
  | false =>
    have e1 : pLess (a1, a2) (b1, b2) = decide (u64 a1 < u64 b1) := by simp only [pLess, h]; rfl
    rw [e1]
    go_enter Try.func72, Try.ntmps72
    go_wp2_with (go_at_call 69; refine (HB.out _ _ _).mono ?_; rintro e w1 ⟨rfl, rfl⟩)
    all_goals (first | go_ret | skip)
    all_goals exact ⟨rfl, ((Kept.refl NB w).alloc _).alloc _⟩
end Go.Proofs.Ytdpoobkfhmmbjaa
