/- The walk of the reference's End. -/
import Derived.Test.YtdpoobkfhmmbjaaRefLib
import Derived.Handy
namespace Go.Proofs.Ytdpoobkfhmmbjaa
open Go.RowKit
open Go.MapKept (heap_alloc)
set_option maxRecDepth 100000 in
set_option maxHeartbeats 4000000 in
theorem rend_open {F : Nat → Prop} {w : World} {p : Nat} {vc vp : Value} {code : List I3} {ps : List (Prt × Value)} (B : RBld F w p vc vp code ps) (h : 0 < ps.length) (hpl : ps.length < 99) :
    Calls Try.prog 24 #[.pointer (some ⟨p, 0, none⟩)] w fun e w' => e = .returned (.tuple #[.agg #[.slice none 0 0], .int .i64 (-22)]) ∧ RBld F w' p vc vp code ps ∧ Kept (fun r => r = p) w w' := by
  have BA := B.tight.young ((Kept.refl NB w).alloc (.cells #[.slice none 0 0] 34))
  obtain ⟨a, c, rfl, g1, g2, g3⟩ := owns_slice B.b.parts
  have c1 : (w.alloc (.cells #[.slice none 0 0] 34)).cell? ⟨p, 1, none⟩ = some (.slice a ps.length c) := by rw [cell_block BA.b.own]; rfl
  have HB := Lib.hid BA
  have HK := Lib.hid ((Kept.refl (fun r => r = p) w).alloc (.cells #[.slice none 0 0] 34))
  have hpos : (0 : Int) < (ps.length : Int) := by omega
  clear B BA g3
  go_enter Try.func24, Try.ntmps24
  go_wp2_with fail
  go_returns
  refine ⟨rfl, ?_, ?_⟩
  · first | exact HB.out.mono (fun r hr => hr.1) | exact (HB.out.setOff (q := ⟨w.heap.size, 0, none⟩) (fun h => Nat.lt_irrefl _ h.2) _).mono (fun r hr => hr.1)
  · first | exact HK.out | exact HK.out.setCell (.inr (Nat.le_refl _)) _
set_option maxRecDepth 100000 in
set_option maxHeartbeats 4000000 in
theorem rend_ok {F : Nat → Prop} {w : World} {p : Nat} {vc vp : Value} {code : List I3} (B : RBld F w p vc vp code []) (hlen : code.length < 600) :
    Calls Try.prog 24 #[.pointer (some ⟨p, 0, none⟩)] w fun e w' => ∃ dv, e = .returned (.tuple #[.agg #[dv], .int .i64 0]) ∧ w'.ownsRow 0 31 3 dv (code.length + 1) (codeV (code ++ [(15, 0, 0)])) ∧
      w'.cell? ⟨p, 0, none⟩ = some (.slice none 0 0) ∧ Kept (fun r => r = p) w w' := by
  obtain ⟨a, c, rfl, g1, g2, g3⟩ := owns_slice B.b.parts
  obtain ⟨a', c', rfl, g1', g2', g3'⟩ := owns_slice B.b.code
  have hpw := (Array.getElem?_eq_some_iff.1 B.b.own).1
  obtain ⟨wa, hwa⟩ : ∃ wa, w.alloc (.cells #[.slice none 0 0] 34) = wa := ⟨_, rfl⟩
  have KA : Kept NB w wa := by rw [← hwa]; exact (Kept.refl _ w).alloc _
  have hsz : wa.heap.size = w.heap.size + 1 := by rw [← hwa]; simp
  have hr : wa.heap[w.heap.size]? = some (.cells #[.slice none 0 0] 34 (0, 0)) := by rw [← hwa]; exact (heap_alloc w _).1
  have HB := Lib.hid (B.young KA)
  have HW := Lib.hid (show Kept NB wa (wa.alloc (.cells #[] 31)) from (Kept.refl _ wa).alloc _)
  have c1 : wa.cell? ⟨p, 1, none⟩ = some (.slice a 0 c) := by rw [cell_block HB.out.b.own]; rfl
  have c0 : (wa.alloc (.cells #[] 31)).cell? ⟨p, 0, none⟩ = some (.slice a' code.length c') := by rw [cell_block (HB.out.young HW.out).b.own]; rfl
  have H63 := Lib.hid (show code.length ≤ maxLen by simp only [maxLen]; omega)
  have HBy := Lib.hid (show code.length * 24 ≤ 140737488355328 by omega)
  have H64 := Lib.hid (show code.length + 1 ≤ maxLen by simp only [maxLen]; omega)
  have HBz := Lib.hid (show (code.length + 1) * 24 ≤ 140737488355328 by omega)
  have HKA := Lib.hid KA
  have HR := Lib.hid hr
  have HSZ := Lib.hid hsz
  have HPW := Lib.hid hpw
  rw [show ([] : List (Prt × Value)).length = 0 from rfl] at *
  clear B g3 g3' KA hr hsz hpw
  obtain ⟨i0, hi0, hz0, hz1, hz2⟩ := info_parts info31
  go_enter Try.func24, Try.ntmps24
  go_wp2_with (first
    | (at_builtin
       refine wpList_append_fresh _ rfl _ _ _ rfl 31 i0 _ 3 24 Try.underlying32 hi0 hz0 hz1 hz2 rfl (by omega) wa.heap.size rfl (heap_alloc wa _).1 _ _ (codeV code) rfl (HB.out.young HW.out).b.code (codeV_one code) H63.out HBy.out ?_
       intro a1 c1' w1 own1 kept1 at1
       have HK1 := Lib.hid (show Kept NB wa w1 from Kept.young HW.out kept1 (by rintro r rfl; exact Nat.le_refl _))
       have HA1 := Lib.hid (show ∀ k, (Value.slice a1 code.length c1').ownBlock = some k → wa.heap.size ≤ k from fun k hk => by
         rcases at1 k hk with h | h
         · omega
         · simp at h; omega)
       have HO1 := Lib.hid own1
       clear own1 kept1 at1)
    | (at_builtin
       refine wpList_append_lies _ rfl _ _ _ rfl 0 31 i0 _ 3 24 Try.underlying32 hi0 hz0 hz1 hz2 rfl (by omega) (.slice a1 code.length c1') code.length (codeV code) rfl (HO1.out.alloc _) ⟨w1.heap.size, 0, none⟩ 1 1 [.int .u8 15, .int .i64 0, .int .i64 0] rfl rfl (World.news_of_block (cs := #[.int .u8 15, .int .i64 0, .int .i64 0]) (t := 31) (fr := (0, 0)) (heap_alloc_new w1 _)) (by simp [Value.oneCell']) (by omega) H64.out HBz.out (Nat.zero_le _) _ rfl ?_
       intro gg cap w2 own2 grow2 at2 lt2
       have K2 : Kept NB wa w2 := Kept.young (S := fun r => (Value.slice a1 code.length c1').ownBlock = some r) (HK1.out.alloc _) ((Kept.refl _ _).grown grow2 (fun k hk => .inl hk)) (fun r hr => HA1.out r hr)
       have HA2 := Lib.hid (show wa.heap.size ≤ gg by
         rcases at2 with h | h
         · exact HA1.out _ h
         · rw [h]; exact (HK1.out.alloc _).size)
       have HGL := Lib.hid (show gg < w2.heap.size from lt2)
       have KD : Kept NB wa (w2.alloc (.cells #[.slice (some ⟨gg, 0, none⟩) (code.length + 1) cap] 34)) := K2.alloc _
       have hs2 := K2.size
       have hs3 := HSZ.out
       have hs4 := HPW.out
       have hpd := (HB.out.young KD).b.own
       have hrd := (KD.block _ (Array.getElem?_eq_some_iff.1 HR.out).1 (fun h => h)).trans HR.out
       have htd := (heap_alloc w2 (.cells #[.slice (some ⟨gg, 0, none⟩) (code.length + 1) cap] 34)).1
       have x1 : (w2.alloc (.cells #[.slice (some ⟨gg, 0, none⟩) (code.length + 1) cap] 34)).cell? ⟨p, 0, none⟩ = some (.slice a' code.length c') := by rw [cell_block hpd]; rfl
       have x2 : (w2.alloc (.cells #[.slice (some ⟨gg, 0, none⟩) (code.length + 1) cap] 34)).frozen? ⟨p, 0, none⟩ = false := frozen_block hpd 0
       have hre := (Below.heap_setCell (w2.alloc (.cells #[.slice (some ⟨gg, 0, none⟩) (code.length + 1) cap] 34)) ⟨p, 0, none⟩ (.slice none 0 0) w.heap.size (by intro h; simp at h; omega)).trans hrd
       have hte := (Below.heap_setCell (w2.alloc (.cells #[.slice (some ⟨gg, 0, none⟩) (code.length + 1) cap] 34)) ⟨p, 0, none⟩ (.slice none 0 0) w2.heap.size (by intro h; simp at h; omega)).trans htd
       have x3 : ((w2.alloc (.cells #[.slice (some ⟨gg, 0, none⟩) (code.length + 1) cap] 34)).setCell ⟨p, 0, none⟩ (.slice none 0 0)).cell? ⟨w.heap.size, 0, none⟩ = some (.slice none 0 0) := by rw [cell_block hre]; rfl
       have x4 : ((w2.alloc (.cells #[.slice (some ⟨gg, 0, none⟩) (code.length + 1) cap] 34)).setCell ⟨p, 0, none⟩ (.slice none 0 0)).frozen? ⟨w.heap.size, 0, none⟩ = false := frozen_block hre 0
       have x5 : ((w2.alloc (.cells #[.slice (some ⟨gg, 0, none⟩) (code.length + 1) cap] 34)).setCell ⟨p, 0, none⟩ (.slice none 0 0)).cell? ⟨w2.heap.size, 0, none⟩ = some (.slice (some ⟨gg, 0, none⟩) (code.length + 1) cap) := by rw [cell_block hte]; rfl
       have HZ := Lib.hid (rown_set0 (u := .slice none 0 0) hpd)
       have HO2 := Lib.hid own2
       have HK2 := Lib.hid K2
       clear own2 grow2 at2 lt2 K2 KD hpd hrd htd hre hte hs2 hs3 hs4))
  have x6 : (((w2.alloc (.cells #[(.slice (some ⟨gg, 0, none⟩) (code.length + 1) cap)] 34)).setCell ⟨p, 0, none⟩ (.slice none 0 0)).setCell ⟨w.heap.size, 0, none⟩ (.slice (some ⟨gg, 0, none⟩) (code.length + 1) cap)).cell? ⟨w.heap.size, 0, none⟩ = some (.slice (some ⟨gg, 0, none⟩) (code.length + 1) cap) := World.cell?_setCell_same' _ _ _ (by rw [x3]; rfl)
  refine bodyPost_ret (v := .tuple #[.agg #[(.slice (some ⟨gg, 0, none⟩) (code.length + 1) cap)], .int .i64 0]) (by simp [results, Try.results24, go_sem, x6]) rfl ?_
  have hpw := HPW.out
  have hsz := HSZ.out
  have hgg := HA2.out
  have KF : Kept (fun r => r = p ∨ r = w.heap.size) w2 (((w2.alloc (.cells #[(.slice (some ⟨gg, 0, none⟩) (code.length + 1) cap)] 34)).setCell ⟨p, 0, none⟩ (.slice none 0 0)).setCell ⟨w.heap.size, 0, none⟩ (.slice (some ⟨gg, 0, none⟩) (code.length + 1) cap)) := (((Kept.refl _ w2).alloc _).setCell (.inl (.inl rfl)) _).setCell (.inl (.inr rfl)) _
  refine ⟨(.slice (some ⟨gg, 0, none⟩) (code.length + 1) cap), rfl, ?_, ?_, ?_⟩
  · have := owns_kept HO2.out KF (fun k hk h => by
      simp [Value.ownBlock] at hk
      subst hk
      rcases h with h | h <;> omega)
    simpa [codeV, insV] using this
  · rw [cell_block ((Below.heap_setCell _ _ _ _ (show ¬ p = w.heap.size by omega)).trans HZ.out)]; rfl
  · exact (((((HKA.out.trans HK2.out).mono (T := fun r => r = p) (fun _ h => h.elim)).alloc _).setCell (.inl rfl) _).setCell (.inr (Nat.le_refl _)) _)
end Go.Proofs.Ytdpoobkfhmmbjaa
