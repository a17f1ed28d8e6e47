/- The walk of flow.Builder's innermost, where no part is open. -/
import Derived.Test.YtdpoobkfhmmbjaaFits
import Derived.RangeFuncFrom
import Derived.RangeFuncBox
import Derived.RangeFuncLeaves
import Derived.RangeFuncNested
import Derived.Shelf.Abstract
import Derived.OwnWalkIn
import Derived.TacticsInMore
import Derived.LoopNIn
import Derived.LoopIn
namespace Go.Proofs.Ytdpoobkfhmmbjaa
open Go.RowKit Go.Shelf
attribute [local go_sem] Oper.semAt_some
set_option maxRecDepth 100000 in
theorem back_make (F : Fence) (n : Nat) (h5 : F.fn 56) (hro : F.round = none) (a : Option Addr) (len cap : Nat) (w : World) :
    CallsIn F n Try.prog 56 #[.slice a len cap] w fun e w' => e = .returned (.func (.func 65) #[] #[.pointer (some ⟨w.heap.size, 0, none⟩)]) ∧ w' = w.alloc (.cells #[.slice a len cap] 59) := by
  refine callsIn_of_wp Try.func56 rfl h5 ?_ hro
  simp only [Try.ntmps56, List.size_toArray, List.length_cons, List.length_nil, Nat.reduceAdd, Nat.reduceSub, Array.replicate_succ, Array.replicate_zero, List.push_toArray, List.append_toArray, List.nil_append, List.cons_append]
  gi_wp2
  go_ret
  exact ⟨rfl, rfl⟩
set_option maxRecDepth 100000 in
theorem back_empty (F : Fence) (n : Nat) (h7 : F.fn 65) (hro : F.round = none) (l Bs : Nat) (a : Option Addr) (c : Nat) {α : Type} (J : List α → World → Prop) (W : World) (hBs : W.cell? ⟨Bs, 0, none⟩ = some (.slice a 0 c)) (h0 : J [] W) :
    CallsIn F n Try.prog 65 #[.func (.yield l) #[] #[], .pointer (some ⟨Bs, 0, none⟩)] W fun e W' => (∃ v, e = .returned v) ∧ J [] W' := by
  refine callsIn_of_wp Try.func65 rfl h7 ?_ hro
  simp only [Try.ntmps65, List.size_toArray, List.length_cons, List.length_nil, Nat.reduceAdd, Nat.reduceSub, Array.replicate_succ, Array.replicate_zero, List.push_toArray, List.append_toArray, List.nil_append, List.cons_append]
  gi_wp2
  gi_loopw [3] (fun i wr => i = .int .i64 (-1) ∧ J [] wr) (fun _ _ => 0)
  case atStart => exact ⟨rfl, h0⟩
  case round =>
    obtain ⟨rfl, hJs⟩ := hrel
    gi_wp2
    go_end0
    exact ⟨⟨_, rfl⟩, hJs⟩
theorem cell_of_box_v {w : World} {b : Nat} {v : Value} {t : TypeId} (h : w.heap[b]? = some (.cells #[v] t (0, 0))) : w.cell? ⟨b, 0, none⟩ = some v ∧ w.frozen? ⟨b, 0, none⟩ = false := ⟨by rw [cell_block h]; rfl, frozen_block h 0⟩
theorem back_stops_empty (F : Fence) (n : Nat) (h7 : F.fn 65) (hro : F.round = none) (Bs : Nat) (a : Option Addr) (c : Nat) (w : World) (hBs : Bs < w.heap.size) (hc : w.cell? ⟨Bs, 0, none⟩ = some (.slice a 0 c)) :
    SeqStopsK F n Try.prog 65 #[.pointer (some ⟨Bs, 0, none⟩)] (fun x : Empty => (x.elim : Array Value)) KeepsWalks (fun ys => ys = []) (fun _ => False) 0 w := fun l J _Jx W hW _ _ _ h0 =>
  (back_empty F n h7 hro l Bs a c J W ((hW.cell (p := ⟨Bs, 0, none⟩) hBs).trans hc) h0).mono fun _e _W' ⟨he, hj⟩ => ⟨he, .inl ⟨_, rfl, hj⟩⟩
set_option maxRecDepth 100000 in
set_option maxHeartbeats 2000000 in
theorem inner_empty_in (F : Fence) (n : Nat) (h3 : F.fn 28) (h4 : F.fn 56) (h5 : F.fn 65) (hro : F.round = none) (hn : 3 ≤ n) (p : Nat) (a : Option Addr) (c : Nat) (w : World) (hp : p < w.heap.size) (c1 : w.cell? ⟨p, 1, none⟩ = some (.slice a 0 c)) :
    CallsIn F n Try.prog 28 #[.pointer (some ⟨p, 0, none⟩)] w fun e W' => e = .returned (.int .i64 (-1)) ∧ Below w.heap.size w W' := by
  have h1 : 1 ≤ n := by omega
  have c2 : (w.alloc (.cells #[.int .i64 0] 3)).cell? ⟨p, 1, none⟩ = some (.slice a 0 c) := (World.cell?_of_block (Below.heap_alloc _ _ _ hp)).trans c1
  refine callsIn_of_wp_marks Try.func28 rfl h3 ?_ hro
  simp only [Try.ntmps28, List.size_toArray, List.length_cons, List.length_nil, Nat.reduceAdd, Nat.reduceSub, Array.replicate_succ, Array.replicate_zero, List.push_toArray, List.append_toArray, List.nil_append, List.cons_append]
  gi_wp2_with (gi_at_call 56; refine (back_make F (n - 1) h4 hro _ _ _ _).mono ?_; rintro e w' ⟨rfl, rfl⟩)
  obtain ⟨W0, hW0⟩ : ∃ W0, (w.alloc (.cells #[.int .i64 0] 3)).alloc (.cells #[.slice a 0 c] 59) = W0 := ⟨_, rfl⟩
  have hs0 : W0.heap.size = w.heap.size + 2 := by rw [← hW0]; simp
  have hB0 : W0.heap[w.heap.size]? = some (.cells #[.int .i64 0] 3 (0, 0)) := by
    rw [← hW0]; exact (Below.heap_alloc _ _ _ (by simp)).trans (World.alloc_heap_new w _)
  have hB1 : W0.heap[w.heap.size + 1]? = some (.cells #[.slice a 0 c] 59 (0, 0)) := by
    rw [← hW0]
    have := World.alloc_heap_new (w.alloc (.cells #[.int .i64 0] 3)) (.cells #[.slice a 0 c] 59); rwa [World.size_alloc] at this
  have hBW : Below w.heap.size w W0 := by rw [← hW0]; exact ((Below.refl _ w).alloc (Nat.le_refl _) _).alloc (by simp) _
  rw [hW0]
  refine wpIn_rangeFunc_ownF hro h1 (gf := 65) (lb := #[.pointer (some ⟨w.heap.size + 1, 0, none⟩)]) rfl h5 (enters_of Try.func65 (by kernel_rfl) rfl)
    (back_stops_empty F (n - 1) h5 hro (w.heap.size + 1) a c W0 (by omega) (cell_of_box_v hB1).1) walksK_t walksK_b (Below.refl _ _) (fun x => x.elim)
    (fun pre W => (W.cell? ⟨w.heap.size, 0, none⟩ = some (.int .i64 0) ∧ W.frozen? ⟨w.heap.size, 0, none⟩ = false) ∧ Below w.heap.size w W)
    (fun c pre W => False ∧ Below w.heap.size w W)
    (OwnFrom.and (Own.from (fun s A B row hs hg hr => ⟨cell_kept hs.1 hg hr, (frozen_kept hs.1 hg hr).trans hs.2⟩) _) (ownFrom_below (Nat.le_refl _) (by omega)))
    (fun c => OwnFrom.and (Own.from (fun s A B row hs hg hr => hs) _) (ownFrom_below (Nat.le_refl _) (by omega)))
    ⟨⟨(cell_of_box_v hB0).1, (cell_of_box_v hB0).2⟩, hBW⟩
    (fun x => x.elim) ?assign ?body ?done ?stop
  case assign => intro l x; exact x.elim
  case body => intro l pre x; exact x.elim
  case done =>
    rintro D xs W hD _ ⟨⟨hcr, hfr⟩, hB⟩ hK
    gi_wp2
    have hK' := (KeepsOthers.setCell W ⟨w.heap.size, 0, none⟩ (.int .i64 (-1))).same D _ hK rfl
    refine ⟨by simp, .inl ⟨_, _, rfl, run_takeDeferred hK', ?_⟩⟩
    have hc5 := cell_kept (World.cell?_setCell_same' W ⟨w.heap.size, 0, none⟩ (.int .i64 (-1)) (by rw [hcr]; rfl)) (grownBy_putObj' _ D (.deferred none)) (fun r e => by cases e; exact ⟨_, hK', rfl⟩)
    refine ⟨.int .i64 (-1), ?_, rfl, (hB.setCell (p := ⟨w.heap.size, 0, none⟩) (by simp) _).trans (belowK_b (w := w) (Nat.le_refl _) _ D _ _ (by omega) hK' rfl rfl)⟩
    simp [results, Try.results28, go_sem, hc5]
  case stop =>
    rintro D c pre W _ hF _ _
    exact hF.elim
theorem inner_empty {F : Nat → Prop} {w : World} {p : Nat} {vc vp : Value} {code : List I3} (B : Bld F w p vc vp code []) : Calls Try.prog 28 #[.pointer (some ⟨p, 0, none⟩)] w fun e W' => e = .returned (.int .i64 (-1)) ∧ Below w.heap.size w W' := by
  obtain ⟨a, c, rfl, h1, h2, h3⟩ := owns_slice B.parts
  exact (callsIn_wide (n := 3)).1 (inner_empty_in Fence.wide 3 trivial trivial trivial rfl (by omega) p a c w (Array.getElem?_eq_some_iff.1 B.own).1 (by rw [cell_block B.own]; rfl))
end Go.Proofs.Ytdpoobkfhmmbjaa
