/- What a flow.Builder is in the model's heap, and frames. Plain facts. -/
import Derived.Test.YtdpoobkfhmmbjaaApp
import Derived.Below
namespace Go.Proofs.Ytdpoobkfhmmbjaa
open Go.RowKit
/-- Only blocks of S, and new ones, have changed. -/
structure Kept (S : Nat → Prop) (w w' : World) : Prop where
  os : w'.os = w.os
  tape : w'.tape = w.tape
  output : w'.output = w.output
  size : w.heap.size ≤ w'.heap.size
  block : ∀ r, r < w.heap.size → ¬ S r → w'.heap[r]? = w.heap[r]?
section
variable {w w' w'' : World} {S T : Nat → Prop}
theorem Kept.refl (S : Nat → Prop) (w : World) : Kept S w w := ⟨rfl, rfl, rfl, Nat.le_refl _, fun _ _ _ => rfl⟩
theorem Kept.trans (a : Kept S w w') (b : Kept S w' w'') : Kept S w w'' :=
  ⟨b.os.trans a.os, b.tape.trans a.tape, b.output.trans a.output, Nat.le_trans a.size b.size, fun r hr hs => (b.block r (Nat.lt_of_lt_of_le hr a.size) hs).trans (a.block r hr hs)⟩
theorem Kept.mono (a : Kept S w w') (hs : ∀ r, S r → T r) : Kept T w w' := ⟨a.os, a.tape, a.output, a.size, fun r hr ht => a.block r hr (fun h => ht (hs r h))⟩
theorem Kept.alloc (a : Kept S w w') (o : Obj) : Kept S w (w'.alloc o) :=
  ⟨a.os, a.tape, a.output, Nat.le_trans a.size (by simp), fun r hr hs => (Below.heap_alloc w' o r (Nat.lt_of_lt_of_le hr a.size)).trans (a.block r hr hs)⟩
theorem Kept.drew (a : Kept S w w') : Kept S w w'.drew := ⟨a.os, a.tape, a.output, a.size, a.block⟩
theorem Kept.setCell (a : Kept S w w') {q : Addr} (hq : S q.block ∨ w.heap.size ≤ q.block) (u : Value) : Kept S w (w'.setCell q u) :=
  ⟨a.os, a.tape, a.output, by simpa [World.setCell] using a.size, fun r hr hs => (Below.heap_setCell w' q u r (by
    rintro rfl
    rcases hq with hq | hq
    · exact hs hq
    · omega)).trans (a.block r hr hs)⟩
theorem Kept.setRow (a : Kept S w w') {r0 : Nat} (hq : S r0 ∨ w.heap.size ≤ r0) (cs : Array Value) : Kept S w (w'.setRow r0 cs) :=
  ⟨a.os, a.tape, a.output, by simpa using a.size, fun r hr hs => (setRow_other w' r0 r cs (by
    rintro rfl
    rcases hq with hq | hq
    · exact hs hq
    · omega)).trans (a.block r hr hs)⟩
theorem Kept.below (a : Kept S w w') {W : World} {N : Nat} (hb : Below N W w) (hN : N ≤ w.heap.size) (hs : ∀ r, S r → N ≤ r) : Below N W w' :=
  ⟨a.os.trans hb.os, a.tape.trans hb.tape, a.output.trans hb.output, Nat.le_trans hb.size a.size, fun r hr => (a.block r (Nat.lt_of_lt_of_le hr hN) (fun h => by have := hs r h; omega)).trans (hb.block r hr)⟩
theorem Kept.grown (a : Kept S w w') {row : Option Nat} (g : w'.grownBy w'' row) (h : ∀ k, row = some k → S k ∨ w.heap.size ≤ k) : Kept S w w'' :=
  ⟨g.os.trans a.os, g.tape.trans a.tape, g.output.trans a.output, Nat.le_trans a.size g.size, fun r hr hs => (g.block r (Nat.lt_of_lt_of_le hr a.size) (fun e => by
    rcases h r e.symm with h1 | h1
    · exact hs h1
    · omega)).trans (a.block r hr hs)⟩
theorem Kept.drewN (a : Kept S w w') (n : Nat) : Kept S w (w'.drewN n) := ⟨a.os, a.tape, a.output, a.size, a.block⟩
end
section
variable {w w' : World} {p : Nat}
theorem cell_block {p : Nat} {c : Array Value} {t : TypeId} {fr : Nat × Nat} (hb : w.heap[p]? = some (.cells c t fr)) (j : Nat) : w.cell? ⟨p, j, none⟩ = c[j]? := by simp [World.cell?, hb]
theorem frozen_block {p : Nat} {c : Array Value} {t : TypeId} (hb : w.heap[p]? = some (.cells c t (0, 0))) (j : Nat) : w.frozen? ⟨p, j, none⟩ = false := by simp [World.frozen?, hb]
end
/-- An instruction: its operation, its place, its cell. -/
abbrev I3 := Int × Int × Int
def insV (x : I3) : List Value := [.int .u8 x.1, .int .i64 x.2.1, .int .i64 x.2.2]
/-- A part that is open: its kind, its place, its gaps. -/
structure Prt where
  kind : Int
  at_ : Int
  gaps : List Int
def intV (n : Int) : Value := .int .i64 n
def partV (q : Prt × Value) : List Value := [.int .i64 q.1.kind, .int .i64 q.1.at_, q.2]
def codeV (code : List I3) : List Value := code.flatMap insV
def partsV (ps : List (Prt × Value)) : List Value := ps.flatMap partV
structure Bld (F : Nat → Prop) (w : World) (p : Nat) (vc vp : Value) (code : List I3) (ps : List (Prt × Value)) : Prop where
  own : w.heap[p]? = some (.cells #[vc, vp] 61 (0, 0))
  code : w.ownsRow 0 31 3 vc code.length (codeV code)
  parts : w.ownsRow 0 85 3 vp ps.length (partsV ps)
  gaps : ∀ q ∈ ps, w.ownsRow 0 3 1 q.2 q.1.gaps.length (q.1.gaps.map intV)
  apart : ps.Pairwise (fun a b => a.2.ownBlock = none ∨ a.2.ownBlock ≠ b.2.ownBlock)
  fp : F p
  fc : ∀ k, vc.ownBlock = some k → F k
  fq : ∀ k, vp.ownBlock = some k → F k
  fg : ∀ q ∈ ps, ∀ k, q.2.ownBlock = some k → F k
/-- The builder, its inner slices unnamed. -/
def BldE (F : Nat → Prop) (w : World) (p : Nat) (code : List I3) (parts : List Prt) : Prop := ∃ vc vp ps, Bld F w p vc vp code ps ∧ ps.map (·.1) = parts
section
variable {w w' : World} {base : Nat} {e : TypeId} {size : Nat} {v : Value} {n : Nat} {xs : List Value}
theorem owns_block (h : w.ownsRow base e size v n xs) {g : Nat} (hg : v.ownBlock = some g) : ∃ cur, w.heap[g]? = some (.cells cur e (0, 0)) := by
  rcases h.2 with ⟨rfl, _⟩ | ⟨g', cap, cur, rfl, _, hgg, _⟩
  · simp [Value.ownBlock] at hg
  · simp [Value.ownBlock] at hg; subst hg; exact ⟨cur, hgg⟩
theorem owns_kept {S : Nat → Prop} (h : w.ownsRow base e size v n xs) (K : Kept S w w') (hs : ∀ k, v.ownBlock = some k → ¬ S k) : w'.ownsRow base e size v n xs := by
  refine ⟨h.1, ?_⟩
  rcases h.2 with hn | ⟨g, cap, cur, rfl, hb, hgg, rest⟩
  · exact .inl hn
  · exact .inr ⟨g, cap, cur, rfl, hb, by rw [K.block g (Array.getElem?_eq_some_iff.1 hgg).1 (hs g rfl)]; exact hgg, rest⟩
theorem owns_set (h : w.ownsRow base e size v n xs) {g : Nat} (hg : v.ownBlock = some g) (j : Nat) (u : Value) : (w.setCell ⟨g, j, none⟩ u).ownsRow base e size v n (xs.set j u) := by
  rcases h.2 with ⟨rfl, _⟩ | ⟨g', cap, cur, rfl, hb, hgg, hn, hm, hs, ht⟩
  · simp [Value.ownBlock] at hg
  · simp [Value.ownBlock] at hg
    subst hg
    rw [setCell_eq_setRow w g' j cur e (0, 0) u hgg]
    refine ⟨by simpa using h.1, .inr ⟨g', cap, _, rfl, hb, setRow_heap w g' cur _ e _ hgg, hn, hm, by simpa using hs, ?_⟩⟩
    rw [← ht]
    simp [List.take_set]
/-- The rows of one builder lie in blocks of their own: their kinds differ. -/
theorem owns_apart {e2 size2 : Nat} {v2 : Value} {n2 : Nat} {xs2 : List Value} {b2 : Nat} (h : w.ownsRow base e size v n xs) (h2 : w.ownsRow b2 e2 size2 v2 n2 xs2) (he : e ≠ e2) : v.ownBlock = none ∨ v.ownBlock ≠ v2.ownBlock := by
  cases hv : v.ownBlock with
  | none => exact .inl rfl
  | some g =>
    refine .inr fun h3 => ?_
    obtain ⟨c1, k1⟩ := owns_block h hv
    obtain ⟨c2, k2⟩ := owns_block h2 h3.symm
    rw [k1] at k2
    injection k2 with k3
    injection k3 with _ k4
    exact he k4
end
end Go.Proofs.Ytdpoobkfhmmbjaa
