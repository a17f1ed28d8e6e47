/- What the last three walks of the builder's laws share. -/
import Derived.Test.YtdpoobkfhmmbjaaShown
import Derived.Test.YtdpoobkfhmmbjaaKinds
import Derived.Test.YtdpoobkfhmmbjaaMay
namespace Go.Proofs.Ytdpoobkfhmmbjaa
open Go.RowKit
def FN (W : World) : Nat → Prop := fun r => W.heap.size ≤ r
theorem FN.all {W w : World} (K : Kept (FN W) W w) : ∀ r, w.heap.size ≤ r → FN W r := fun _r hr => Nat.le_trans K.size hr
theorem Kept.nb {S : Nat → Prop} {w w' : World} (K : Kept NB w w') : Kept S w w' := K.mono (fun _ h => h.elim)
theorem Kept.fin {w w' : World} (K : Kept (FN w) w w') : Below w.heap.size w w' := K.below (Below.refl _ w) (Nat.le_refl _) (fun _ h => h)
theorem Kept.old {w w' : World} (K : Kept (FN w) w w') : Kept NB w w' := ⟨K.os, K.tape, K.output, K.size, fun r hr _ => K.block r hr (fun h => by have : w.heap.size ≤ r := h; omega)⟩
theorem cell_far {w w' : World} {S : Nat → Prop} (K : Kept S w w') (a : Addr) (v : Value) (h : w.cell? a = some v) (hs : ¬ S a.block) : w'.cell? a = some v := by
  have hlt : a.block < w.heap.size := by
    unfold World.cell? at h
    cases hb : w.heap[a.block]? with
    | none => rw [hb] at h; simp at h
    | some o => exact (Array.getElem?_eq_some_iff.1 hb).1
  exact (World.cell?_of_block (K.block a.block hlt hs)).trans h
theorem do_okay {F : Nat → Prop} {w : World} {p : Nat} {s : St} (S : BldS F w p s.1 s.2) (hF : ∀ r, w.heap.size ≤ r → F r) (h : Okay s) (n : Int) :
    Calls Try.prog 13 #[.pointer (some ⟨p, 0, none⟩), .int .i64 n] w (DoPost F w p (ansS n s) (doS n s)) := do_all S hF h.wf h.deep n
theorem may_okay (code : List I3) (h : Okay (code, [])) (dv : Value) (w : World) (hd : w.ownsRow 0 31 3 dv (code.length + 1) (codeV (code ++ [(15, 0, 0)]))) :
    Calls Try.prog 18 #[.agg #[dv], .int .i64 0] w fun e w' => e = .returned (.bool true) ∧ Kept NB w w' := by
  obtain ⟨d, h1, h2, h3⟩ := inv_dep code h.inv h.wf.len
  exact may_any code _ rfl d h1 h2 h3 dv w (by simpa using hd)
end Go.Proofs.Ytdpoobkfhmmbjaa
