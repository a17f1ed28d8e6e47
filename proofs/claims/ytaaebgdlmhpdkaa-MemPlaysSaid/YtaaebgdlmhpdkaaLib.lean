/- What a memory (mem.Mem) is in the model's heap: one block for the struct, one for its bytes; and a frame: which blocks may have changed. Plain facts. -/
import Derived.Test.YtaaebgdlmhpdkaaRows
import Derived.WalkKit
import Derived.WalkSpells
import Derived.WalkLawsBesides
import Derived.Lib.Hide
import Derived.LaidEqlPtr
namespace Go.Proofs.Ytaaebgdlmhpdkaa
open Go.RowKit
def bV (c : UInt8) : Value := .int .u8 (c.toNat : Int)
structure MemIs (w : World) (p g : Nat) (bs : List UInt8) (h : Nat) : Prop where
  own : w.heap[p]? = some (.cells #[.slice (some ⟨g, 0, none⟩) bs.length bs.length, .int .i64 (h : Int)] 69 (0, 0))
  row : w.heap[g]? = some (.cells (bs.map bV).toArray 5 (0, 0))
  ne : p ≠ g
  len : bs.length ≤ 65536
/-- Only blocks of S, and new ones, have changed. -/
structure Kept (S : Nat → Prop) (w w' : World) : Prop where
  os : w'.os = w.os
  tape : w'.tape = w.tape
  output : w'.output = w.output
  size : w.heap.size ≤ w'.heap.size
  block : ∀ r, r < w.heap.size → ¬ S r → w'.heap[r]? = w.heap[r]?
section
variable {w w' w'' : World} {p g : Nat} {bs : List UInt8} {h : Nat} {S T : Nat → Prop}
theorem Kept.refl (S : Nat → Prop) (w : World) : Kept S w w := ⟨rfl, rfl, rfl, Nat.le_refl _, fun _ _ _ => rfl⟩
theorem Kept.trans (a : Kept S w w') (b : Kept S w' w'') : Kept S w w'' :=
  ⟨b.os.trans a.os, b.tape.trans a.tape, b.output.trans a.output, Nat.le_trans a.size b.size, fun r hr hs => (b.block r (Nat.lt_of_lt_of_le hr a.size) hs).trans (a.block r hr hs)⟩
theorem Kept.mono (a : Kept S w w') (hs : ∀ r, S r → T r) : Kept T w w' := ⟨a.os, a.tape, a.output, a.size, fun r hr ht => a.block r hr (fun h => ht (hs r h))⟩
theorem Kept.alloc (a : Kept S w w') (o : Obj) : Kept S w (w'.alloc o) :=
  ⟨a.os, a.tape, a.output, Nat.le_trans a.size (by simp), fun r hr hs => (Below.heap_alloc w' o r (Nat.lt_of_lt_of_le hr a.size)).trans (a.block r hr hs)⟩
theorem Kept.drew (a : Kept S w w') : Kept S w w'.drew := ⟨a.os, a.tape, a.output, a.size, a.block⟩
theorem Kept.setCell (a : Kept S w w') {q : Addr} (hq : S q.block ∨ w.heap.size ≤ q.block) (u : Value) : Kept S w (w'.setCell q u) :=
  ⟨a.os, a.tape, a.output, by simpa [World.setCell] using a.size, fun r hr hs => (Below.heap_setCell w' q u r (by
    rintro rfl
    rcases hq with hq | hq
    · exact hs hq
    · omega)).trans (a.block r hr hs)⟩
theorem Kept.setRow (a : Kept S w w') {r0 : Nat} (hq : S r0 ∨ w.heap.size ≤ r0) (cs : Array Value) : Kept S w (w'.setRow r0 cs) :=
  ⟨a.os, a.tape, a.output, by simpa using a.size, fun r hr hs => (setRow_other w' r0 r cs (by
    rintro rfl
    rcases hq with hq | hq
    · exact hs hq
    · omega)).trans (a.block r hr hs)⟩
theorem Kept.below (a : Kept S w w') {W : World} {N : Nat} (hb : Below N W w) (hN : N ≤ w.heap.size) (hs : ∀ r, S r → N ≤ r) : Below N W w' :=
  ⟨a.os.trans hb.os, a.tape.trans hb.tape, a.output.trans hb.output, Nat.le_trans hb.size a.size, fun r hr => (a.block r (Nat.lt_of_lt_of_le hr hN) (fun h => by have := hs r h; omega)).trans (hb.block r hr)⟩
theorem MemIs.lt (M : MemIs w p g bs h) : p < w.heap.size ∧ g < w.heap.size := ⟨(Array.getElem?_eq_some_iff.1 M.own).1, (Array.getElem?_eq_some_iff.1 M.row).1⟩
theorem MemIs.kept (M : MemIs w p g bs h) (k : Kept S w w') (hp : ¬ S p) (hg : ¬ S g) : MemIs w' p g bs h :=
  ⟨(k.block p M.lt.1 hp).trans M.own, (k.block g M.lt.2 hg).trans M.row, M.ne, M.len⟩
theorem cell_block {c : Array Value} {t : TypeId} {fr : Nat × Nat} (hb : w.heap[p]? = some (.cells c t fr)) (j : Nat) : w.cell? ⟨p, j, none⟩ = c[j]? := by simp [World.cell?, hb]
theorem frozen_block {c : Array Value} {t : TypeId} (hb : w.heap[p]? = some (.cells c t (0, 0))) (j : Nat) : w.frozen? ⟨p, j, none⟩ = false := by simp [World.frozen?, hb]
theorem MemIs.slice_ (M : MemIs w p g bs h) : w.cell? ⟨p, 0, none⟩ = some (.slice (some ⟨g, 0, none⟩) bs.length bs.length) := by rw [cell_block M.own]; rfl
theorem MemIs.here_ (M : MemIs w p g bs h) : w.cell? ⟨p, 1, none⟩ = some (.int .i64 (h : Int)) := by rw [cell_block M.own]; rfl
theorem MemIs.free_ (M : MemIs w p g bs h) (j : Nat) : w.frozen? ⟨p, j, none⟩ = false := frozen_block M.own j
theorem MemIs.freeRow (M : MemIs w p g bs h) (j : Nat) : w.frozen? ⟨g, j, none⟩ = false := frozen_block M.row j
theorem MemIs.byte (M : MemIs w p g bs h) (j : Nat) (hj : j < bs.length) : w.cell? ⟨g, j, none⟩ = some (bV (bs.getD j 0)) := by
  rw [cell_block M.row]
  simp [hj]
theorem MemIs.setRow (M : MemIs w p g bs h) (cs : List UInt8) (hl : cs.length = bs.length) : MemIs (w.setRow g (cs.map bV).toArray) p g cs h :=
  ⟨by rw [setRow_other w g p _ M.ne, M.own, hl], setRow_heap w g _ _ _ _ M.row, M.ne, by rw [hl]; exact M.len⟩
theorem setCell_bV (M : MemIs w p g bs h) (j : Nat) (c : UInt8) : w.setCell ⟨g, j, none⟩ (bV c) = w.setRow g ((bs.set j c).map bV).toArray := by
  rw [setCell_eq_setRow w g j _ _ _ _ M.row]
  congr 1
  simp [List.map_set]
theorem MemIs.setHere (M : MemIs w p g bs h) (k : Nat) : MemIs (w.setCell ⟨p, 1, none⟩ (.int .i64 (k : Int))) p g bs k := by
  rw [setCell_eq_setRow w p 1 _ _ _ _ M.own]
  exact ⟨by rw [setRow_heap w p _ _ _ _ M.own]; rfl, by rw [setRow_other w p g _ M.ne.symm]; exact M.row, M.ne, M.len⟩
end
end Go.Proofs.Ytaaebgdlmhpdkaa
