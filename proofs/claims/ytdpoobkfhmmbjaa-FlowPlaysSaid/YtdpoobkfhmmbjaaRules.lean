/- The walk of flow.Builder's rules: the map of the 17 words. -/
import Derived.Test.YtdpoobkfhmmbjaaFits
namespace Go.Proofs.Ytdpoobkfhmmbjaa
open Go.RowKit
open Go.MapKept (IsKey run_checkKey run_findKey run_setObj_map heap_alloc)
/-- A map of ints under way: its entries, the box ahead of it, the rows that have been laid. -/
structure Stg (w : World) (p k : Nat) (Y : World) (E : Array MapEntry) (L : List (Value × List Int)) : Prop where
  map : Y.heap[w.heap.size + 1]? = some (.map E k)
  box : Y.heap[w.heap.size]? = some (.cells #[.pointer (some ⟨p, 0, none⟩)] 24 (0, 0))
  kept : Kept (fun _ => False) w Y
  rows : ∀ x ∈ L, Y.ownsRow 0 3 1 x.1 x.2.length (x.2.map intV)
def insMap (w : World) (r : Nat) (es : Array MapEntry) (c : Nat) (n : Int) (v : Value) : World := { w with heap := w.heap.setIfInBounds r (.map (es.push { key := .int .i64 n, val := v, born := c }) (c + 1)) }
theorem run_insert_gen {w : World} {r : Nat} {es : Array MapEntry} {clock : Nat} (hb : w.heap[r]? = some (.map es clock)) (k : Int) (v : Value)
    (hf : Instr.findNow (.int .i64) (.int .i64 k) es.toList 0 = some none) :
    (Instr.mapUpdate 66 (.map (some r)) (.int .i64 k) v).run Try.prog w = .ok () (insMap w r es clock k v) := by
  have hc : (Instr.checkKey false 10000 3 (.int .i64 k)).run Try.prog w = .ok () w := run_checkKey (k := .int .i64 k) Try.underlying3 (by simp [IsKey]) false 9999
  simp [Instr.mapUpdate, run_underlying Try.underlying66, MapKept.run_getObj_map hb, hc, run_findKey Try.underlying3 hf, run_setObj_map _ hb, Result.andThen]
  rfl
section
variable {w : World} {p k : Nat} {Y : World} {E : Array MapEntry} {L : List (Value × List Int)}
theorem Stg.ins (S : Stg w p k Y E L) (n : Int) (v : Value) (hf : Instr.findNow (.int .i64) (.int .i64 n) E.toList 0 = some none) :
    ∃ Y', (Instr.mapUpdate 66 (.map (some (w.heap.size + 1))) (.int .i64 n) v).run Try.prog Y = .ok () Y' ∧ Stg w p (k + 1) Y' (E.push { key := .int .i64 n, val := v, born := k }) L ∧ Y'.cell? ⟨w.heap.size, 0, none⟩ = some (.pointer (some ⟨p, 0, none⟩)) := by
  have hlt := (Array.getElem?_eq_some_iff.1 S.map).1
  have hother : ∀ j, j ≠ w.heap.size + 1 → (insMap Y (w.heap.size + 1) E k n v).heap[j]? = Y.heap[j]? := fun j hj => by simp [insMap, Ne.symm hj]
  have hbx := (hother w.heap.size (by omega)).trans S.box
  refine ⟨insMap Y (w.heap.size + 1) E k n v, run_insert_gen S.map n v hf, ⟨by simp [insMap, hlt], hbx, ⟨S.kept.os, S.kept.tape, S.kept.output, by simpa [insMap] using S.kept.size, fun r hr hs => (hother r (by omega)).trans (S.kept.block r hr hs)⟩, fun x hx => ?_⟩, by rw [cell_block hbx]; rfl⟩
  have K : Kept (fun r => r = w.heap.size + 1) Y (insMap Y (w.heap.size + 1) E k n v) := ⟨rfl, rfl, rfl, by simp [insMap], fun r _ hs => hother r hs⟩
  refine owns_kept (S.rows x hx) K (fun j hj h => ?_)
  subst h
  obtain ⟨c, hc⟩ := owns_block (S.rows x hx) hj
  rw [S.map] at hc
  cases hc
theorem Stg.row (S : Stg w p k Y E L) (l : List Int) (hl : l.length ≤ 9) : Stg w p k (Y.alloc (.cells (l.map intV).toArray 3)) E ((.slice (some ⟨Y.heap.size, 0, none⟩) l.length l.length, l) :: L) ∧ (Y.alloc (.cells (l.map intV).toArray 3)).cell? ⟨w.heap.size, 0, none⟩ = some (.pointer (some ⟨p, 0, none⟩)) := by
  have hK : Kept (fun _ => False) Y (Y.alloc (.cells (l.map intV).toArray 3)) := (Kept.refl _ Y).alloc _
  have hbx := (hK.block _ (Array.getElem?_eq_some_iff.1 S.box).1 (fun h => h)).trans S.box
  refine ⟨⟨(hK.block _ (Array.getElem?_eq_some_iff.1 S.map).1 (fun h => h)).trans S.map, hbx, S.kept.trans hK, fun x hx => ?_⟩, by rw [cell_block hbx]; rfl⟩
  rcases List.mem_cons.1 hx with rfl | hx
  · exact ⟨by simp, .inr ⟨Y.heap.size, l.length, (l.map intV).toArray, rfl, Nat.zero_le _, (heap_alloc Y _).1, Nat.le_refl _, by simp only [maxLen]; omega, by simp, List.take_of_length_le (by simp)⟩⟩
  · exact owns_kept (S.rows x hx) hK (fun _ _ h => h)
end
def nilS : Value := .slice none 0 0
def fnOf (p bx n : Nat) : Value := ([.int .i64 0, .func (.func 40) #[] #[.pointer (some ⟨bx, 0, none⟩)], .func (.func 42) #[.pointer (some ⟨p, 0, none⟩)] #[], .func (.func 43) #[.pointer (some ⟨p, 0, none⟩)] #[], .func (.func 44) #[] #[.pointer (some ⟨bx, 0, none⟩)], .func (.func 45) #[.pointer (some ⟨p, 0, none⟩)] #[], .func (.func 46) #[.pointer (some ⟨p, 0, none⟩)] #[], .func (.func 47) #[.pointer (some ⟨p, 0, none⟩)] #[], .func (.func 47) #[.pointer (some ⟨p, 0, none⟩)] #[], .func (.func 48) #[] #[.pointer (some ⟨bx, 0, none⟩)], .func (.func 49) #[] #[.pointer (some ⟨bx, 0, none⟩)], .func (.func 50) #[.pointer (some ⟨p, 0, none⟩)] #[], .func (.func 50) #[.pointer (some ⟨p, 0, none⟩)] #[], .func (.func 51) #[.pointer (some ⟨p, 0, none⟩)] #[], .func (.func 52) #[] #[.pointer (some ⟨bx, 0, none⟩)], .func (.func 53) #[] #[.pointer (some ⟨bx, 0, none⟩)], .func (.func 54) #[.pointer (some ⟨p, 0, none⟩)] #[], .func (.func 55) #[.pointer (some ⟨p, 0, none⟩)] #[]] : List Value).getD n (.int .i64 0)
def ruleV (p bx : Nat) (A : Nat → Value) (n : Nat) : Value := .agg #[A n, .int .u8 (laysOf n), .int .i64 (moreOf n), fnOf p bx n]
def ruleE (p bx : Nat) (A : Nat → Value) (n : Nat) : MapEntry := { key := .int .i64 n, val := ruleV p bx A n, born := n - 1 }
def rulesMap (p bx : Nat) (A : Nat → Value) : Array MapEntry := #[ruleE p bx A 1, ruleE p bx A 2, ruleE p bx A 3, ruleE p bx A 4, ruleE p bx A 5, ruleE p bx A 6, ruleE p bx A 7, ruleE p bx A 8, ruleE p bx A 9, ruleE p bx A 10, ruleE p bx A 11, ruleE p bx A 12, ruleE p bx A 13, ruleE p bx A 14, ruleE p bx A 15, ruleE p bx A 16, ruleE p bx A 17]
/-- the map of rules, with its box and its rows -/
structure RulesAt (w : World) (p : Nat) (A : Nat → Value) (W : World) : Prop where
  map : W.heap[w.heap.size + 1]? = some (.map (rulesMap p w.heap.size A) 17)
  box : W.heap[w.heap.size]? = some (.cells #[.pointer (some ⟨p, 0, none⟩)] 24 (0, 0))
  kept : Kept (fun _ => False) w W
  rows : ∀ n, n ≤ 17 → W.ownsRow 0 3 1 (A n) (asksOf n).length ((asksOf n).map intV)
set_option maxRecDepth 100000 in
set_option maxHeartbeats 4000000 in
theorem rules_any (w : World) (p : Nat) : Calls Try.prog 26 #[.pointer (some ⟨p, 0, none⟩)] w fun e w' => e = .returned (.map (some (w.heap.size + 1))) ∧ ∃ A, RulesAt w p A w' := by
  have hmm := @run_makeMap Try.prog
  have b0 := heap_alloc (w.alloc (.cells #[.pointer (some ⟨p, 0, none⟩)] 24)) (.map #[] 0)
  have S0 : Stg w p 0 ((w.alloc (.cells #[.pointer (some ⟨p, 0, none⟩)] 24)).alloc (.map #[] 0)) #[] [] :=
    ⟨by have := b0.1; rwa [World.size_alloc] at this, (Below.heap_alloc _ _ _ (by simp)).trans (heap_alloc w _).1, ((Kept.refl _ w).alloc _).alloc _, by simp⟩
  clear b0
  generalize hY0 : (w.alloc (.cells #[.pointer (some ⟨p, 0, none⟩)] 24)).alloc (.map #[] 0) = Y0 at *
  obtain ⟨Y1, i1, S1, c1⟩ := S0.ins 1 (.agg #[.slice none 0 0, .int .u8 4, .int .i64 1, .func (.func 40) #[] #[.pointer (some ⟨w.heap.size, 0, none⟩)]]) rfl
  replace i1 : (Instr.mapUpdate 66 (.map (some (w.heap.size + 1))) (.int .i64 1) (.agg #[.slice none 0 0, .int .u8 4, .int .i64 1, .func (.func 40) #[] #[.pointer (some ⟨w.heap.size, 0, none⟩)]])).run Try.prog Y0 = .ok () Y1 := i1
  clear S0
  have R2 := (S1.row [0] (by decide))
  have r2 : (Y1.alloc (.cells #[.int .i64 0] 3)).cell? ⟨w.heap.size, 0, none⟩ = some (.pointer (some ⟨p, 0, none⟩)) := R2.2
  obtain ⟨Y2, i2, S2, c2⟩ := R2.1.ins 2 (.agg #[.slice (some ⟨Y1.heap.size, 0, none⟩) 1 1, .int .u8 3, .int .i64 0, .func (.func 42) #[.pointer (some ⟨p, 0, none⟩)] #[]]) rfl
  replace i2 : (Instr.mapUpdate 66 (.map (some (w.heap.size + 1))) (.int .i64 2) (.agg #[.slice (some ⟨Y1.heap.size, 0, none⟩) 1 1, .int .u8 3, .int .i64 0, .func (.func 42) #[.pointer (some ⟨p, 0, none⟩)] #[]])).run Try.prog (Y1.alloc (.cells #[.int .i64 0] 3)) = .ok () Y2 := i2
  clear R2 S1
  have R3 := (S2.row [0] (by decide))
  have r3 : (Y2.alloc (.cells #[.int .i64 0] 3)).cell? ⟨w.heap.size, 0, none⟩ = some (.pointer (some ⟨p, 0, none⟩)) := R3.2
  obtain ⟨Y3, i3, S3, c3⟩ := R3.1.ins 3 (.agg #[.slice (some ⟨Y2.heap.size, 0, none⟩) 1 1, .int .u8 0, .int .i64 0, .func (.func 43) #[.pointer (some ⟨p, 0, none⟩)] #[]]) rfl
  replace i3 : (Instr.mapUpdate 66 (.map (some (w.heap.size + 1))) (.int .i64 3) (.agg #[.slice (some ⟨Y2.heap.size, 0, none⟩) 1 1, .int .u8 0, .int .i64 0, .func (.func 43) #[.pointer (some ⟨p, 0, none⟩)] #[]])).run Try.prog (Y2.alloc (.cells #[.int .i64 0] 3)) = .ok () Y3 := i3
  clear R3 S2
  obtain ⟨Y4, i4, S4, c4⟩ := S3.ins 4 (.agg #[.slice none 0 0, .int .u8 0, .int .i64 1, .func (.func 44) #[] #[.pointer (some ⟨w.heap.size, 0, none⟩)]]) rfl
  replace i4 : (Instr.mapUpdate 66 (.map (some (w.heap.size + 1))) (.int .i64 4) (.agg #[.slice none 0 0, .int .u8 0, .int .i64 1, .func (.func 44) #[] #[.pointer (some ⟨w.heap.size, 0, none⟩)]])).run Try.prog Y3 = .ok () Y4 := i4
  clear S3
  have R5 := (S4.row [1] (by decide))
  have r5 : (Y4.alloc (.cells #[.int .i64 1] 3)).cell? ⟨w.heap.size, 0, none⟩ = some (.pointer (some ⟨p, 0, none⟩)) := R5.2
  obtain ⟨Y5, i5, S5, c5⟩ := R5.1.ins 5 (.agg #[.slice (some ⟨Y4.heap.size, 0, none⟩) 1 1, .int .u8 4, .int .i64 1, .func (.func 45) #[.pointer (some ⟨p, 0, none⟩)] #[]]) rfl
  replace i5 : (Instr.mapUpdate 66 (.map (some (w.heap.size + 1))) (.int .i64 5) (.agg #[.slice (some ⟨Y4.heap.size, 0, none⟩) 1 1, .int .u8 4, .int .i64 1, .func (.func 45) #[.pointer (some ⟨p, 0, none⟩)] #[]])).run Try.prog (Y4.alloc (.cells #[.int .i64 1] 3)) = .ok () Y5 := i5
  clear R5 S4
  have R6 := (S5.row [1, 0] (by decide))
  have r6 : (Y5.alloc (.cells #[.int .i64 1, .int .i64 0] 3)).cell? ⟨w.heap.size, 0, none⟩ = some (.pointer (some ⟨p, 0, none⟩)) := R6.2
  obtain ⟨Y6, i6, S6, c6⟩ := R6.1.ins 6 (.agg #[.slice (some ⟨Y5.heap.size, 0, none⟩) 2 2, .int .u8 3, .int .i64 0, .func (.func 46) #[.pointer (some ⟨p, 0, none⟩)] #[]]) rfl
  replace i6 : (Instr.mapUpdate 66 (.map (some (w.heap.size + 1))) (.int .i64 6) (.agg #[.slice (some ⟨Y5.heap.size, 0, none⟩) 2 2, .int .u8 3, .int .i64 0, .func (.func 46) #[.pointer (some ⟨p, 0, none⟩)] #[]])).run Try.prog (Y5.alloc (.cells #[.int .i64 1, .int .i64 0] 3)) = .ok () Y6 := i6
  clear R6 S5
  have R7 := (S6.row [1] (by decide))
  have r7 : (Y6.alloc (.cells #[.int .i64 1] 3)).cell? ⟨w.heap.size, 0, none⟩ = some (.pointer (some ⟨p, 0, none⟩)) := R7.2
  obtain ⟨Y7, i7, S7, c7⟩ := R7.1.ins 7 (.agg #[.slice (some ⟨Y6.heap.size, 0, none⟩) 1 1, .int .u8 4, .int .i64 0, .func (.func 47) #[.pointer (some ⟨p, 0, none⟩)] #[]]) rfl
  replace i7 : (Instr.mapUpdate 66 (.map (some (w.heap.size + 1))) (.int .i64 7) (.agg #[.slice (some ⟨Y6.heap.size, 0, none⟩) 1 1, .int .u8 4, .int .i64 0, .func (.func 47) #[.pointer (some ⟨p, 0, none⟩)] #[]])).run Try.prog (Y6.alloc (.cells #[.int .i64 1] 3)) = .ok () Y7 := i7
  clear R7 S6
  have R8 := (S7.row [1] (by decide))
  have r8 : (Y7.alloc (.cells #[.int .i64 1] 3)).cell? ⟨w.heap.size, 0, none⟩ = some (.pointer (some ⟨p, 0, none⟩)) := R8.2
  obtain ⟨Y8, i8, S8, c8⟩ := R8.1.ins 8 (.agg #[.slice (some ⟨Y7.heap.size, 0, none⟩) 1 1, .int .u8 3, .int .i64 0, .func (.func 47) #[.pointer (some ⟨p, 0, none⟩)] #[]]) rfl
  replace i8 : (Instr.mapUpdate 66 (.map (some (w.heap.size + 1))) (.int .i64 8) (.agg #[.slice (some ⟨Y7.heap.size, 0, none⟩) 1 1, .int .u8 3, .int .i64 0, .func (.func 47) #[.pointer (some ⟨p, 0, none⟩)] #[]])).run Try.prog (Y7.alloc (.cells #[.int .i64 1] 3)) = .ok () Y8 := i8
  clear R8 S7
  obtain ⟨Y9, i9, S9, c9⟩ := S8.ins 9 (.agg #[.slice none 0 0, .int .u8 5, .int .i64 1, .func (.func 48) #[] #[.pointer (some ⟨w.heap.size, 0, none⟩)]]) rfl
  replace i9 : (Instr.mapUpdate 66 (.map (some (w.heap.size + 1))) (.int .i64 9) (.agg #[.slice none 0 0, .int .u8 5, .int .i64 1, .func (.func 48) #[] #[.pointer (some ⟨w.heap.size, 0, none⟩)]])).run Try.prog Y8 = .ok () Y9 := i9
  clear S8
  obtain ⟨Y10, i10, S10, c10⟩ := S9.ins 10 (.agg #[.slice none 0 0, .int .u8 6, .int .i64 1, .func (.func 49) #[] #[.pointer (some ⟨w.heap.size, 0, none⟩)]]) rfl
  replace i10 : (Instr.mapUpdate 66 (.map (some (w.heap.size + 1))) (.int .i64 10) (.agg #[.slice none 0 0, .int .u8 6, .int .i64 1, .func (.func 49) #[] #[.pointer (some ⟨w.heap.size, 0, none⟩)]])).run Try.prog Y9 = .ok () Y10 := i10
  clear S9
  have R11 := (S10.row [2] (by decide))
  have r11 : (Y10.alloc (.cells #[.int .i64 2] 3)).cell? ⟨w.heap.size, 0, none⟩ = some (.pointer (some ⟨p, 0, none⟩)) := R11.2
  obtain ⟨Y11, i11, S11, c11⟩ := R11.1.ins 11 (.agg #[.slice (some ⟨Y10.heap.size, 0, none⟩) 1 1, .int .u8 7, .int .i64 0, .func (.func 50) #[.pointer (some ⟨p, 0, none⟩)] #[]]) rfl
  replace i11 : (Instr.mapUpdate 66 (.map (some (w.heap.size + 1))) (.int .i64 11) (.agg #[.slice (some ⟨Y10.heap.size, 0, none⟩) 1 1, .int .u8 7, .int .i64 0, .func (.func 50) #[.pointer (some ⟨p, 0, none⟩)] #[]])).run Try.prog (Y10.alloc (.cells #[.int .i64 2] 3)) = .ok () Y11 := i11
  clear R11 S10
  have R12 := (S11.row [2] (by decide))
  have r12 : (Y11.alloc (.cells #[.int .i64 2] 3)).cell? ⟨w.heap.size, 0, none⟩ = some (.pointer (some ⟨p, 0, none⟩)) := R12.2
  obtain ⟨Y12, i12, S12, c12⟩ := R12.1.ins 12 (.agg #[.slice (some ⟨Y11.heap.size, 0, none⟩) 1 1, .int .u8 8, .int .i64 0, .func (.func 50) #[.pointer (some ⟨p, 0, none⟩)] #[]]) rfl
  replace i12 : (Instr.mapUpdate 66 (.map (some (w.heap.size + 1))) (.int .i64 12) (.agg #[.slice (some ⟨Y11.heap.size, 0, none⟩) 1 1, .int .u8 8, .int .i64 0, .func (.func 50) #[.pointer (some ⟨p, 0, none⟩)] #[]])).run Try.prog (Y11.alloc (.cells #[.int .i64 2] 3)) = .ok () Y12 := i12
  clear R12 S11
  obtain ⟨Y13, i13, S13, c13⟩ := S12.ins 13 (.agg #[.slice none 0 0, .int .u8 9, .int .i64 0, .func (.func 51) #[.pointer (some ⟨p, 0, none⟩)] #[]]) rfl
  replace i13 : (Instr.mapUpdate 66 (.map (some (w.heap.size + 1))) (.int .i64 13) (.agg #[.slice none 0 0, .int .u8 9, .int .i64 0, .func (.func 51) #[.pointer (some ⟨p, 0, none⟩)] #[]])).run Try.prog Y12 = .ok () Y13 := i13
  clear S12
  obtain ⟨Y14, i14, S14, c14⟩ := S13.ins 14 (.agg #[.slice none 0 0, .int .u8 0, .int .i64 1, .func (.func 52) #[] #[.pointer (some ⟨w.heap.size, 0, none⟩)]]) rfl
  replace i14 : (Instr.mapUpdate 66 (.map (some (w.heap.size + 1))) (.int .i64 14) (.agg #[.slice none 0 0, .int .u8 0, .int .i64 1, .func (.func 52) #[] #[.pointer (some ⟨w.heap.size, 0, none⟩)]])).run Try.prog Y13 = .ok () Y14 := i14
  clear S13
  have R15 := (S14.row [3] (by decide))
  have r15 : (Y14.alloc (.cells #[.int .i64 3] 3)).cell? ⟨w.heap.size, 0, none⟩ = some (.pointer (some ⟨p, 0, none⟩)) := R15.2
  obtain ⟨Y15, i15, S15, c15⟩ := R15.1.ins 15 (.agg #[.slice (some ⟨Y14.heap.size, 0, none⟩) 1 1, .int .u8 10, .int .i64 1, .func (.func 53) #[] #[.pointer (some ⟨w.heap.size, 0, none⟩)]]) rfl
  replace i15 : (Instr.mapUpdate 66 (.map (some (w.heap.size + 1))) (.int .i64 15) (.agg #[.slice (some ⟨Y14.heap.size, 0, none⟩) 1 1, .int .u8 10, .int .i64 1, .func (.func 53) #[] #[.pointer (some ⟨w.heap.size, 0, none⟩)]])).run Try.prog (Y14.alloc (.cells #[.int .i64 3] 3)) = .ok () Y15 := i15
  clear R15 S14
  have R16 := (S15.row [4, 3] (by decide))
  have r16 : (Y15.alloc (.cells #[.int .i64 4, .int .i64 3] 3)).cell? ⟨w.heap.size, 0, none⟩ = some (.pointer (some ⟨p, 0, none⟩)) := R16.2
  obtain ⟨Y16, i16, S16, c16⟩ := R16.1.ins 16 (.agg #[.slice (some ⟨Y15.heap.size, 0, none⟩) 2 2, .int .u8 3, .int .i64 0, .func (.func 54) #[.pointer (some ⟨p, 0, none⟩)] #[]]) rfl
  replace i16 : (Instr.mapUpdate 66 (.map (some (w.heap.size + 1))) (.int .i64 16) (.agg #[.slice (some ⟨Y15.heap.size, 0, none⟩) 2 2, .int .u8 3, .int .i64 0, .func (.func 54) #[.pointer (some ⟨p, 0, none⟩)] #[]])).run Try.prog (Y15.alloc (.cells #[.int .i64 4, .int .i64 3] 3)) = .ok () Y16 := i16
  clear R16 S15
  have R17 := (S16.row [3] (by decide))
  have r17 : (Y16.alloc (.cells #[.int .i64 3] 3)).cell? ⟨w.heap.size, 0, none⟩ = some (.pointer (some ⟨p, 0, none⟩)) := R17.2
  obtain ⟨Y17, i17, S17, c17⟩ := R17.1.ins 17 (.agg #[.slice (some ⟨Y16.heap.size, 0, none⟩) 1 1, .int .u8 11, .int .i64 0, .func (.func 55) #[.pointer (some ⟨p, 0, none⟩)] #[]]) rfl
  replace i17 : (Instr.mapUpdate 66 (.map (some (w.heap.size + 1))) (.int .i64 17) (.agg #[.slice (some ⟨Y16.heap.size, 0, none⟩) 1 1, .int .u8 11, .int .i64 0, .func (.func 55) #[.pointer (some ⟨p, 0, none⟩)] #[]])).run Try.prog (Y16.alloc (.cells #[.int .i64 3] 3)) = .ok () Y17 := i17
  clear R17 S16
  have HS := Lib.hid S17
  clear S17
  have HY := Lib.hid hY0
  go_enter Try.func26, Try.ntmps26
  try simp only [List.append]
  go_wp2
  go_ret
  refine ⟨rfl, fun n => ([.slice none 0 0, .slice none 0 0, .slice (some ⟨Y1.heap.size, 0, none⟩) 1 1, .slice (some ⟨Y2.heap.size, 0, none⟩) 1 1, .slice none 0 0, .slice (some ⟨Y4.heap.size, 0, none⟩) 1 1, .slice (some ⟨Y5.heap.size, 0, none⟩) 2 2, .slice (some ⟨Y6.heap.size, 0, none⟩) 1 1, .slice (some ⟨Y7.heap.size, 0, none⟩) 1 1, .slice none 0 0, .slice none 0 0, .slice (some ⟨Y10.heap.size, 0, none⟩) 1 1, .slice (some ⟨Y11.heap.size, 0, none⟩) 1 1, .slice none 0 0, .slice none 0 0, .slice (some ⟨Y14.heap.size, 0, none⟩) 1 1, .slice (some ⟨Y15.heap.size, 0, none⟩) 2 2, .slice (some ⟨Y16.heap.size, 0, none⟩) 1 1] : List Value).getD n (.slice none 0 0), HS.out.map, HS.out.box, HS.out.kept, fun n hn => ?_⟩
  have hr := HS.out.rows
  have hnil := World.ownsRow_nil Y17 0 3 1
  match n, hn with
  | 0, _ => exact hnil
  | 1, _ => exact hnil
  | 2, _ => exact hr (_, [0]) (by simp [List.mem_cons])
  | 3, _ => exact hr (_, [0]) (by simp [List.mem_cons])
  | 4, _ => exact hnil
  | 5, _ => exact hr (_, [1]) (by simp [List.mem_cons])
  | 6, _ => exact hr (_, [1, 0]) (by simp [List.mem_cons])
  | 7, _ => exact hr (_, [1]) (by simp [List.mem_cons])
  | 8, _ => exact hr (_, [1]) (by simp [List.mem_cons])
  | 9, _ => exact hnil
  | 10, _ => exact hnil
  | 11, _ => exact hr (_, [2]) (by simp [List.mem_cons])
  | 12, _ => exact hr (_, [2]) (by simp [List.mem_cons])
  | 13, _ => exact hnil
  | 14, _ => exact hnil
  | 15, _ => exact hr (_, [3]) (by simp [List.mem_cons])
  | 16, _ => exact hr (_, [4, 3]) (by simp [List.mem_cons])
  | 17, _ => exact hr (_, [3]) (by simp [List.mem_cons])
  | n + 18, h => exact absurd h (by omega)
end Go.Proofs.Ytdpoobkfhmmbjaa
