/- Small laws for maps with int keys that the call itself makes: one more entry into the newest block; a look-up by the entries themselves. No condition but the ones written. -/
import Derived.MapKept
import Derived.Below
import Derived.Laws.World
namespace Go.Proofs.Ytbapimbjgfplhaa
open Go.MapKept (IsKey run_checkKey run_findKey run_setObj_map heap_alloc)
theorem set_alloc (w : World) (o o' : Obj) : ({ w.alloc o with heap := (w.alloc o).heap.setIfInBounds w.heap.size o' } : World) = w.alloc o' := by
  have e : (w.alloc o).heap.setIfInBounds w.heap.size o' = (w.alloc o').heap := by
    show (w.heap.push o).setIfInBounds w.heap.size o' = w.heap.push o'
    apply Array.ext_getElem?
    intro i
    simp only [Array.getElem?_setIfInBounds, Array.getElem?_push, Array.size_push]
    by_cases h : w.heap.size = i
    · subst h; simp
    · simp [h, Ne.symm h]
  simp only [e]; rfl

theorem run_insert_new {P : Program} {mty kt et : TypeId} (hm : P.underlying mty = some (.map kt et)) {ik : IntKind} (hk : P.underlying kt = some (.int ik)) (w : World) (es : Array MapEntry) (clock : Nat) (k : Int) (v : Value)
    (hf : Instr.findNow (.int ik) (.int ik k) es.toList 0 = some none) :
    (Instr.mapUpdate mty (.map (some w.heap.size)) (.int ik k) v).run P (w.alloc (.map es clock)) = .ok () (w.alloc (.map (es.push { key := .int ik k, val := v, born := clock }) (clock + 1))) := by
  have hb : (w.alloc (.map es clock)).heap[w.heap.size]? = some (.map es clock) := (heap_alloc w _).1
  have hc : (Instr.checkKey false 10000 kt (.int ik k)).run P (w.alloc (.map es clock)) = .ok () (w.alloc (.map es clock)) := run_checkKey (k := .int ik k) hk (by simp [IsKey]) false 9999
  simp [Instr.mapUpdate, run_underlying hm, MapKept.run_getObj_map hb, hc, run_findKey hk hf, run_setObj_map _ hb, Result.andThen]
  exact set_alloc w _ _

theorem run_look_ok {P : Program} {mty kt et : TypeId} (hm : P.underlying mty = some (.map kt et)) {ik : IntKind} (hk : P.underlying kt = some (.int ik)) {w : World} {r : Nat} {es : Array MapEntry} {clock : Nat} {k : Int}
    (hb : w.heap[r]? = some (.map es clock)) {i : Nat} {v : Value} (hf : Instr.findNow (.int ik) (.int ik k) es.toList 0 = some (some (i, v))) :
    (Instr.lookup mty (.map (some r)) (.int ik k) true).run P w = .ok (.tuple #[v, .bool true]) w := by
  have hc : ∀ e, (Instr.checkKey e 10000 kt (.int ik k)).run P w = .ok () w := fun e => run_checkKey (k := .int ik k) hk (by simp [IsKey]) e 9999
  simp [Instr.lookup, run_underlying hm, MapKept.run_getObj_map hb, hc, run_findKey hk hf, Result.andThen]

theorem run_look_none {P : Program} {mty kt et : TypeId} (hm : P.underlying mty = some (.map kt et)) {ik : IntKind} (hk : P.underlying kt = some (.int ik)) {w : World} {r : Nat} {es : Array MapEntry} {clock : Nat} {k : Int}
    (hb : w.heap[r]? = some (.map es clock)) {z : Value} (hz : (zeroValue et).run P w = .ok z w) (hf : Instr.findNow (.int ik) (.int ik k) es.toList 0 = some none) :
    (Instr.lookup mty (.map (some r)) (.int ik k) true).run P w = .ok (.tuple #[z, .bool false]) w := by
  have hc : ∀ e, (Instr.checkKey e 10000 kt (.int ik k)).run P w = .ok () w := fun e => run_checkKey (k := .int ik k) hk (by simp [IsKey]) e 9999
  simp [Instr.lookup, run_underlying hm, MapKept.run_getObj_map hb, hc, run_findKey hk hf, hz, Result.andThen]
end Go.Proofs.Ytbapimbjgfplhaa
