/- The walk of flow.Builder's innermost, whatever is open. -/
import Derived.Test.YtdpoobkfhmmbjaaInner
import Derived.RangeFuncWrites
namespace Go.Proofs.Ytdpoobkfhmmbjaa
open Go.RowKit Go.Shelf
attribute [local go_sem] Oper.semAt_some
structure Elt where
  idx : Nat
  kind : Int
  at_ : Int
  a : Option Addr
  n : Nat
  c : Nat
def encE (x : Elt) : Array Value := #[.int .i64 (x.idx : Int), .agg #[.int .i64 x.kind, .int .i64 x.at_, .slice x.a x.n x.c]]
def upto {α : Type} (f : Nat → α) (k : Nat) : List α := (List.range k).map f
theorem upto_succ {α : Type} (f : Nat → α) (k : Nat) : upto f (k + 1) = upto f k ++ [f k] := by simp [upto, List.range_succ]
theorem upto_length {α : Type} (f : Nat → α) (k : Nat) : (upto f k).length = k := by simp [upto]
set_option maxRecDepth 100000 in
set_option maxHeartbeats 2000000 in
theorem back1_in (F : Fence) (n : Nat) (h7 : F.fn 65) (hro : F.round = none) (_hn : 1 ≤ n) (l Bs n₀ b len cap : Nat) (f : Nat → Elt) (hlen : len < 99) (hb : b < n₀) (hBn : Bs < n₀) (hidx : ∀ j, (f j).idx = j) (J Jx : List Elt → World → Prop)
    (hY : ∀ pre x W, J pre W → pre.length < len → YieldAt F (n - 1) Try.prog l #[.int .i64 (x.idx : Int), .agg #[.int .i64 x.kind, .int .i64 x.at_, .slice x.a x.n x.c]] W fun e W' =>
      (e = .returned (.bool true) ∧ J (pre ++ [x]) W' ∧ Below n₀ W W') ∨ (e = .returned (.bool false) ∧ Jx (pre ++ [x]) W'))
    (W : World) (hBs : W.cell? ⟨Bs, 0, none⟩ = some (.slice (some ⟨b, 0, none⟩) len cap))
    (hc : ∀ j, j < len → W.cell? ⟨b, j * 3, none⟩ = some (.int .i64 (f j).kind) ∧ W.cell? ⟨b, j * 3 + 1, none⟩ = some (.int .i64 (f j).at_) ∧ W.cell? ⟨b, j * 3 + 2, none⟩ = some (.slice (f j).a (f j).n (f j).c)) (h0 : J [] W) :
    CallsIn F n Try.prog 65 #[.func (.yield l) #[] #[], .pointer (some ⟨Bs, 0, none⟩)] W fun e W' => (∃ v, e = .returned v) ∧
      ((∃ ys, ys = upto (fun k => f (len - 1 - k)) len ∧ J ys W') ∨ (∃ pre, (∃ k, k ≤ len ∧ pre = upto (fun k => f (len - 1 - k)) k) ∧ Jx pre W')) := by
  refine callsIn_of_wp Try.func65 rfl h7 ?_ hro
  simp only [Try.ntmps65, List.size_toArray, List.length_cons, List.length_nil, Nat.reduceAdd, Nat.reduceSub, Array.replicate_succ, Array.replicate_zero, List.push_toArray, List.append_toArray, List.nil_append, List.cons_append]
  have hw1 : wrap64 ((len : Int) - 1) = (len : Int) - 1 := wrap64_in _ (by omega)
  gi_wp2
  clear hw1
  gi_loopw [3] (fun i wr => ∃ (y : Int) (k : Nat), k ≤ len ∧ i = .int .i64 y ∧ y + 1 + k = len ∧ J (upto (fun k => f (len - 1 - k)) k) wr ∧ Below n₀ W wr)
    (fun i _ => (intOf i + 1).toNat)
  case atStart => exact ⟨(len : Int) - 1, 0, Nat.zero_le _, rfl, by omega, h0, Below.refl _ _⟩
  case round =>
    obtain ⟨y, k, hk, rfl, hy, hJs, hnx⟩ := hrel
    by_cases hlt : k < len
    · obtain ⟨j, hj⟩ : ∃ j : Nat, j = len - 1 - k := ⟨_, rfl⟩
      obtain rfl : y = (j : Int) := by omega
      obtain ⟨q0, q1, q2⟩ := hc j (by omega)
      have c0 := (hnx.cell (p := ⟨b, j * 3, none⟩) hb).trans q0
      have c1 := (hnx.cell (p := ⟨b, j * 3 + 1, none⟩) hb).trans q1
      have c2 := (hnx.cell (p := ⟨b, j * 3 + 2, none⟩) hb).trans q2
      have cb := (hnx.cell (p := ⟨Bs, 0, none⟩) hBn).trans hBs
      obtain ⟨fn, tmps, assign, body, hy2, hR⟩ := hY _ (f j) wr hJs (by rw [upto_length]; exact hlt)
      rw [hidx j] at hy2
      have hjl : (j : Int) < (len : Int) := by omega
      have hj0 : (0 : Int) ≤ (j : Int) := by omega
      have hjn : ((j : Int)).toNat = j := by omega
      have HJ := Lib.hid hj
      clear hj q0 q1 q2
      gi_wp2
      refine hR.mono ?_
      rintro e W3 (⟨rfl, hJ3, hk3⟩ | ⟨rfl, hJx3⟩)
      · have hwj : wrap64 ((j : Int) - 1) = (j : Int) - 1 := wrap64_in _ (by omega)
        gi_wp2
        go_roundw
        case rel => exact ⟨(j : Int) - 1, k + 1, by omega, rfl, by omega, by rw [upto_succ, ← HJ.out]; exact hJ3, hnx.trans hk3⟩
        case measure => simp [intOf]
      · gi_wp2
        refine bodyPost_ret (results_none rfl _ _ _) rfl ?_
        exact ⟨⟨_, rfl⟩, .inr ⟨_, ⟨k + 1, by omega, rfl⟩, by rw [upto_succ, ← HJ.out]; exact hJx3⟩⟩
    · obtain rfl : k = len := by omega
      obtain rfl : y = -1 := by omega
      gi_wp2
      go_end0
      exact ⟨⟨_, rfl⟩, .inl ⟨_, rfl, hJs⟩⟩
theorem back_stops (F : Fence) (n : Nat) (h7 : F.fn 65) (hro : F.round = none) (hn : 1 ≤ n) (Bs b len cap : Nat) (f : Nat → Elt) (hlen : len < 99) (w : World) (hb : b < w.heap.size) (hBn : Bs < w.heap.size) (hidx : ∀ j, (f j).idx = j)
    (hBs : w.cell? ⟨Bs, 0, none⟩ = some (.slice (some ⟨b, 0, none⟩) len cap))
    (hc : ∀ j, j < len → w.cell? ⟨b, j * 3, none⟩ = some (.int .i64 (f j).kind) ∧ w.cell? ⟨b, j * 3 + 1, none⟩ = some (.int .i64 (f j).at_) ∧ w.cell? ⟨b, j * 3 + 2, none⟩ = some (.slice (f j).a (f j).n (f j).c)) :
    SeqStopsK F n Try.prog 65 #[.pointer (some ⟨Bs, 0, none⟩)] encE (Below w.heap.size) (fun ys => ys = upto (fun k => f (len - 1 - k)) len) (fun pre => ∃ k, k ≤ len ∧ pre = upto (fun k => f (len - 1 - k)) k) len w := fun l J Jx W hW _ _ hY h0 =>
  back1_in F n h7 hro hn l Bs w.heap.size b len cap f hlen hb hBn hidx J Jx hY W ((hW.cell (p := ⟨Bs, 0, none⟩) hBn).trans hBs)
    (fun j hj => ⟨(hW.cell (p := ⟨b, j * 3, none⟩) hb).trans (hc j hj).1, (hW.cell (p := ⟨b, j * 3 + 1, none⟩) hb).trans (hc j hj).2.1, (hW.cell (p := ⟨b, j * 3 + 2, none⟩) hb).trans (hc j hj).2.2⟩) h0
/-- what 'innermost' answers -/
def InnerIs (f : Nat → Elt) (len : Nat) (r : Int) : Prop := (r = -1 ∧ ∀ j, j < len → (f j).kind ≠ 2) ∨ ∃ j : Nat, r = j ∧ j < len ∧ (f j).kind = 2 ∧ ∀ i, j < i → i < len → (f i).kind ≠ 2
theorem mem_upto {α : Type} (f : Nat → α) (k : Nat) (x : α) : x ∈ upto f k ↔ ∃ i, i < k ∧ f i = x := by simp [upto]
set_option maxRecDepth 100000 in
set_option maxHeartbeats 4000000 in
theorem inner_some_in (F : Fence) (n : Nat) (h3 : F.fn 28) (h4 : F.fn 56) (h5 : F.fn 65) (hro : F.round = none) (hn : 3 ≤ n) (p b len cap : Nat) (f : Nat → Elt) (hlen : len < 99) (hidx : ∀ j, (f j).idx = j) (w : World) (hp : p < w.heap.size) (hb : b < w.heap.size) (c1 : w.cell? ⟨p, 1, none⟩ = some (.slice (some ⟨b, 0, none⟩) len cap))
    (hc : ∀ j, j < len → w.cell? ⟨b, j * 3, none⟩ = some (.int .i64 (f j).kind) ∧ w.cell? ⟨b, j * 3 + 1, none⟩ = some (.int .i64 (f j).at_) ∧ w.cell? ⟨b, j * 3 + 2, none⟩ = some (.slice (f j).a (f j).n (f j).c)) :
    CallsIn F n Try.prog 28 #[.pointer (some ⟨p, 0, none⟩)] w fun e W' => (∃ r, e = .returned (.int .i64 r) ∧ InnerIs f len r) ∧ Below w.heap.size w W' := by
  have h1 : 1 ≤ n := by omega
  have c2 : (w.alloc (.cells #[.int .i64 0] 3)).cell? ⟨p, 1, none⟩ = some (.slice (some ⟨b, 0, none⟩) len cap) := (World.cell?_of_block (Below.heap_alloc _ _ _ hp)).trans c1
  refine callsIn_of_wp_marks Try.func28 rfl h3 ?_ hro
  simp only [Try.ntmps28, List.size_toArray, List.length_cons, List.length_nil, Nat.reduceAdd, Nat.reduceSub, Array.replicate_succ, Array.replicate_zero, List.push_toArray, List.append_toArray, List.nil_append, List.cons_append]
  gi_wp2_with (gi_at_call 56; refine (back_make F (n - 1) h4 hro _ _ _ _).mono ?_; rintro e w' ⟨rfl, rfl⟩)
  obtain ⟨W0, hW0⟩ : ∃ W0, (w.alloc (.cells #[.int .i64 0] 3)).alloc (.cells #[.slice (some ⟨b, 0, none⟩) len cap] 59) = W0 := ⟨_, rfl⟩
  have hs0 : W0.heap.size = w.heap.size + 2 := by rw [← hW0]; simp
  have hB0 : W0.heap[w.heap.size]? = some (.cells #[.int .i64 0] 3 (0, 0)) := by
    rw [← hW0]; exact (Below.heap_alloc _ _ _ (by simp)).trans (World.alloc_heap_new w _)
  have hB1 : W0.heap[w.heap.size + 1]? = some (.cells #[.slice (some ⟨b, 0, none⟩) len cap] 59 (0, 0)) := by
    rw [← hW0]
    have := World.alloc_heap_new (w.alloc (.cells #[.int .i64 0] 3)) (.cells #[.slice (some ⟨b, 0, none⟩) len cap] 59); rwa [World.size_alloc] at this
  have hBW : Below w.heap.size w W0 := by rw [← hW0]; exact ((Below.refl _ w).alloc (Nat.le_refl _) _).alloc (by simp) _
  rw [hW0]
  refine wpIn_rangeFunc_ownH hro h1 (gf := 65) (lb := #[.pointer (some ⟨w.heap.size + 1, 0, none⟩)]) rfl h5 (enters_of Try.func65 (by kernel_rfl) rfl)
    (back_stops F (n - 1) h5 hro (by omega) (w.heap.size + 1) b len cap f hlen W0 (by omega) (by omega) hidx (cell_of_box_v hB1).1
      (fun j hj => ⟨(hBW.cell (p := ⟨b, j * 3, none⟩) hb).trans (hc j hj).1, (hBW.cell (p := ⟨b, j * 3 + 1, none⟩) hb).trans (hc j hj).2.1, (hBW.cell (p := ⟨b, j * 3 + 2, none⟩) hb).trans (hc j hj).2.2⟩)) belowK_t (belowK_b (Nat.le_refl _)) (Below.refl _ _) (fun _ => rfl)
    (fun pre W => ((∀ x ∈ pre, x.kind ≠ 2) ∧ W.cell? ⟨w.heap.size, 0, none⟩ = some (.int .i64 0) ∧ W.frozen? ⟨w.heap.size, 0, none⟩ = false ∧ W0.heap.size ≤ W.heap.size) ∧ Below w.heap.size w W)
    (fun c pre W => (c = .ret ∧ ∃ pre' x, pre = pre' ++ [x] ∧ x.kind = 2 ∧ (∀ y ∈ pre', y.kind ≠ 2) ∧ W.cell? ⟨w.heap.size, 0, none⟩ = some (.int .i64 (x.idx : Int))) ∧ Below w.heap.size w W)
    (OwnFrom.and (Own.from (fun s A B row hs hg hr => ⟨hs.1, cell_kept hs.2.1 hg hr, (frozen_kept hs.2.1 hg hr).trans hs.2.2.1, Nat.le_trans hs.2.2.2 hg.size⟩) _) (ownFrom_below (Nat.le_refl _) (by omega)))
    (fun c => OwnFrom.and (Own.from (fun s A B row ⟨hs, pre', x, e1, e2, e3, e4⟩ hg hr => ⟨hs, pre', x, e1, e2, e3, cell_kept e4 hg hr⟩) _) (ownFrom_below (Nat.le_refl _) (by omega)))
    ⟨⟨by simp, (cell_of_box_v hB0).1, (cell_of_box_v hB0).2, Nat.le_refl _⟩, hBW⟩
    (fun x a' W => ∃ Bx, w.heap.size < Bx ∧ W.cell? ⟨Bx, 0, none⟩ = some (.int .i64 x.kind) ∧ a' = { tmps := #[.pointer (some ⟨p, 0, none⟩), undef, .pointer (some ⟨w.heap.size, 0, none⟩), .int .i64 (x.idx : Int), .pointer (some ⟨Bx, 0, none⟩), .pointer (some ⟨p, 0, none⟩), .pointer (some ⟨p, 0, none⟩), .pointer (some ⟨p, 1, none⟩), .slice (some ⟨b, 0, none⟩) len cap, .func (.func 65) #[] #[.pointer (some ⟨w.heap.size + 1, 0, none⟩)], .int .i64 (x.idx : Int), .agg #[.int .i64 x.kind, .int .i64 x.at_, .slice x.a x.n x.c], undef, undef, undef, undef], defers := [] })
    (fun x a' => Own.from (fun s A B row ⟨Bx, e0, e1, e2⟩ hg hr => ⟨Bx, e0, cell_kept e1 hg hr, e2⟩) _) ?assign ?body ?done ?stop
  case assign =>
    intro l pre x W K ⟨⟨i1, i2, i3, i5⟩, i4⟩ hK
    unfold encE
    gi_wp2
    have hlt : w.heap.size < W.heap.size := by omega
    have hsame := Below.heap_alloc W (.cells #[.int .i64 x.kind, .int .i64 x.at_, .slice x.a x.n x.c] 85) w.heap.size hlt
    refine hK _ _ ((KeepsOthers.alloc _ _).from _) ((Below.refl _ W).alloc i5 _) ⟨⟨i1, (World.cell?_of_block (a := ⟨w.heap.size, 0, none⟩) hsame).trans i2, (World.frozen?_of_block (a := ⟨w.heap.size, 0, none⟩) hsame).trans i3, by simp; omega⟩, i4.alloc (by omega) _⟩ ⟨W.heap.size, hlt, ?_, rfl⟩
    rw [cell_block (World.alloc_heap_new W _)]; rfl
  case body =>
    rintro l pre x a' W hl ⟨r, hr⟩ ⟨⟨i1, i2, i3, i5⟩, i4⟩ ⟨Bx, b0, b1, rfl⟩ hlt
    by_cases hx : x.kind = 2
    · have hxb : (x.kind == 2) = true := by simpa using hx
      have HX := Lib.hid hx
      clear hx
      gi_wp2
      exact ⟨(KeepsOthers.setCell _ _ _).from _, ⟨rfl, pre, x, rfl, HX.out, i1, World.cell?_setCell_same' _ _ _ (by rw [i2]; rfl)⟩, i4.setCell (p := ⟨w.heap.size, 0, none⟩) (Nat.le_refl _) _⟩
    · have hxb : (x.kind == 2) = false := by simpa using hx
      have HX := Lib.hid hx
      clear hx
      gi_wp2
      exact ⟨(KeepsOthers.refl _).from _, Below.refl _ _, ⟨fun y hy => (List.mem_append.1 hy).elim (i1 y) (fun e => by simp at e; subst e; exact HX.out), i2, i3, i5⟩, i4⟩
  case done =>
    rintro D xs W hD rfl ⟨⟨hne, hcr, hfr, _⟩, hB⟩ hK
    gi_wp2
    have hK' := (KeepsOthers.setCell W ⟨w.heap.size, 0, none⟩ (.int .i64 (-1))).same D _ hK rfl
    refine ⟨by simp, .inl ⟨_, _, rfl, run_takeDeferred hK', ?_⟩⟩
    have hc5 := cell_kept (World.cell?_setCell_same' W ⟨w.heap.size, 0, none⟩ (.int .i64 (-1)) (by rw [hcr]; rfl)) (grownBy_putObj' _ D (.deferred none)) (fun r e => by cases e; exact ⟨_, hK', rfl⟩)
    refine ⟨.int .i64 (-1), ?_, ⟨-1, rfl, .inl ⟨rfl, fun j hj => hne _ ((mem_upto _ _ _).2 ⟨len - 1 - j, by omega, by rw [show len - 1 - (len - 1 - j) = j by omega]⟩)⟩⟩, (hB.setCell (p := ⟨w.heap.size, 0, none⟩) (by simp) _).trans (belowK_b (w := w) (Nat.le_refl _) _ D _ _ (by omega) hK' rfl rfl)⟩
    simp [results, Try.results28, go_sem, hc5]
  case stop =>
    rintro D c pre W hD ⟨k, hk, rfl⟩ ⟨⟨rfl, pre', x, e1, e2, e3, e4⟩, hB⟩ hK
    gi_wp2
    refine ⟨by simp, .inl ⟨_, _, rfl, run_takeDeferred hK, ?_⟩⟩
    have hc5 := cell_kept e4 (grownBy_putObj' _ D (.deferred none)) (fun r e => by cases e; exact ⟨_, hK, rfl⟩)
    obtain ⟨k', rfl⟩ : ∃ k', k = k' + 1 := by
      cases k with
      | zero => simp [upto] at e1
      | succ k' => exact ⟨k', rfl⟩
    rw [upto_succ] at e1
    obtain ⟨e5, e6⟩ := List.append_inj' e1 rfl
    simp at e6
    subst e5 e6
    refine ⟨.int .i64 ((f (len - 1 - k')).idx : Int), ?_, ⟨_, rfl, .inr ⟨len - 1 - k', by rw [hidx], by omega, e2, fun i h6 h7 => e3 _ ((mem_upto _ _ _).2 ⟨len - 1 - i, by omega, by rw [show len - 1 - (len - 1 - i) = i by omega]⟩)⟩⟩, hB.trans (belowK_b (w := w) (Nat.le_refl _) W D _ _ (by omega) hK rfl rfl)⟩
    simp [results, Try.results28, go_sem, hc5]
end Go.Proofs.Ytdpoobkfhmmbjaa
