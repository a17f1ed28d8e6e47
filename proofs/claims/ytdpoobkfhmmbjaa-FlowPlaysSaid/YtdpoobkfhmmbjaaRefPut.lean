/- The walk of the reference's Put. -/
import Derived.Test.YtdpoobkfhmmbjaaRefLib
import Derived.Deep.RegionLaw
namespace Go.Proofs.Ytdpoobkfhmmbjaa
open Go.RowKit
open Go.MapKept (heap_alloc)
set_option maxRecDepth 100000 in
set_option maxHeartbeats 4000000 in
theorem rput_room {F : Nat → Prop} {w : World} {p : Nat} {vc vp : Value} {code : List I3} {ps : List (Prt × Value)} (B : RBld F w p vc vp code ps) (hF : ∀ r, w.heap.size ≤ r → F r) (x : I3) (h : code.length < 499) :
    Calls Try.prog 21 #[.pointer (some ⟨p, 0, none⟩), .agg (insC x)] w fun e w' => e = .returned (.int .i64 0) ∧ (∃ vc', RBld F w' p vc' vp (code ++ [x]) ps ∧ ∀ k, vc'.ownBlock = some k → w.heap.size ≤ k) ∧ Kept (fun r => r = p) w w' := by
  obtain ⟨a, c, hv, h1, h2, h3⟩ := owns_slice B.b.code
  have hpl := (Array.getElem?_eq_some_iff.1 B.b.own).1
  obtain ⟨wa, hwa⟩ : ∃ wa, w.alloc (.cells (insC x) 31) = wa := ⟨_, rfl⟩
  have hb : wa.heap[w.heap.size]? = some (.cells (insC x) 31 (0, 0)) := by rw [← hwa]; exact (heap_alloc w _).1
  have HB := Lib.hid (show RBld F wa p vc vp code ps by rw [← hwa]; exact B.young ((Kept.refl _ w).alloc _))
  have HK := Lib.hid (show Kept (fun r => r = p) w wa by rw [← hwa]; exact (Kept.refl _ w).alloc _)
  have HF := Lib.hid (show ∀ r, wa.heap.size ≤ r → F r from fun r hr => hF r (by have := HK.out.size; omega))
  have HS : ∀ W, Kept NB wa W → W.cell? ⟨p, 0, none⟩ = some (.slice a code.length c) ∧ W.frozen? ⟨p, 0, none⟩ = false ∧ W.cell? ⟨w.heap.size, 0, none⟩ = some (.int .u8 x.1) ∧ W.cell? ⟨w.heap.size, 1, none⟩ = some (.int .i64 x.2.1) ∧ W.cell? ⟨w.heap.size, 2, none⟩ = some (.int .i64 x.2.2) := fun W K => by
    have k1 := (HB.out.young K).b.own
    have k2 := (K.block _ (Array.getElem?_eq_some_iff.1 hb).1 (fun h => h)).trans hb
    refine ⟨by rw [cell_block k1, hv]; rfl, frozen_block k1 0, by rw [cell_block k2]; rfl, by rw [cell_block k2]; rfl, by rw [cell_block k2]; rfl⟩
  have HS2 := Lib.hid HS
  obtain ⟨c1, _, d0, d1, d2⟩ := HS wa (Kept.refl _ _)
  have H63 := Lib.hid (show code.length ≤ maxLen by simp only [maxLen]; omega)
  have HBy := Lib.hid (show code.length * 24 ≤ 140737488355328 by omega)
  have H64 := Lib.hid (show code.length + 1 ≤ maxLen by simp only [maxLen]; omega)
  have HBz := Lib.hid (show (code.length + 1) * 24 ≤ 140737488355328 by omega)
  subst hv
  unfold insC at *
  clear B h3 hb HS hF hpl
  obtain ⟨i0, hi0, hz0, hz1, hz2⟩ := info_parts info31
  go_enter Try.func21, Try.ntmps21
  go_wp2_with fail
  clear hwa
  have KE : Kept NB wa (wa.alloc (.cells #[] 31)).drew := ((Kept.refl _ _).alloc _).drew
  have KX : Kept NB wa (wa.alloc (.cells #[.int .u8 x.1, .int .i64 x.2.1, .int .i64 x.2.2] 31)).drew := ((Kept.refl _ _).alloc _).drew
  have KEX : Kept NB wa ((wa.alloc (.cells #[] 31)).alloc (.cells #[.int .u8 x.1, .int .i64 x.2.1, .int .i64 x.2.2] 31)).drew := (((Kept.refl _ _).alloc _).alloc _).drew
  have KXE : Kept NB wa ((wa.alloc (.cells #[.int .u8 x.1, .int .i64 x.2.1, .int .i64 x.2.2] 31)).alloc (.cells #[] 31)).drew := (((Kept.refl _ _).alloc _).alloc _).drew
  obtain ⟨e1, _, e2, e3, e4⟩ := HS2.out _ KE
  obtain ⟨x1, _, _⟩ := HS2.out _ KX
  obtain ⟨y1, _, _⟩ := HS2.out _ KEX
  obtain ⟨z1, _, _⟩ := HS2.out _ KXE
  rw [World.cell?_drew] at e1 e2 e3 e4 x1 y1 z1
  have KK := Lib.hid (And.intro KE (And.intro KX (And.intro KEX KXE)))
  clear KE KX KEX KXE
  go_region_law (first
      | ((skip
          refine step_append_fresh _ (by rfl) _ _ _ (by rfl) 31 i0 _ 3 24 Try.underlying32 hi0 hz0 hz1 hz2 rfl (by omega) _ (by rfl) ?_ _ _ (codeV code) (by rfl) ?_ (codeV_one code) H63.out HBy.out ?_
          first | exact (heap_alloc _ _).1 | exact heap_first _ _ _ | exact heap_second _ _ _
          · exact (HB.out.young (by first | exact KK.out.1 | exact KK.out.2.2.1 | exact KK.out.2.2.2)).b.code
          intro a1 c1 w1 own1 kept1 at1
          have K1 : Kept NB wa w1 := Kept.young (by first | exact KK.out.1 | exact KK.out.2.2.1 | exact KK.out.2.2.2) kept1 (by rintro r rfl; simp)
          have AT1 := Lib.hid (show ∀ k, (Value.slice a1 code.length c1).ownBlock = some k → wa.heap.size ≤ k from fun k hk => by
            rcases at1 k hk with h | h
            · subst h; simp
            · simp at h; omega)
          have OWN1 := Lib.hid own1
          have KEPT1 := Lib.hid kept1
          obtain ⟨f1, f2, f3, f4, f5⟩ := HS2.out _ K1
          have HK1 := Lib.hid K1
          clear own1 kept1 at1 K1))
      | ((skip
          refine step_append_lies _ (by rfl) _ _ _ (by rfl) 0 31 i0 _ 3 24 Try.underlying32 hi0 hz0 hz1 hz2 rfl (by omega) (.slice a1 code.length c1) code.length (codeV code) (by rfl) ?_ ⟨_, 0, none⟩ 1 1 [.int .u8 x.1, .int .i64 x.2.1, .int .i64 x.2.2] (by rfl) (by rfl) (World.news_of_block (cs := #[.int .u8 x.1, .int .i64 x.2.1, .int .i64 x.2.2]) (t := 31) (fr := (0, 0)) ?_) (by simp [Value.oneCell']) (by omega) H64.out HBz.out (Nat.zero_le _) _ rfl ?_
          first | exact OWN1.out | exact owns_kept OWN1.out ((Kept.refl NB w1).alloc _) (fun _ _ h => h)
          first
              | exact (heap_alloc _ _).1
              | (refine (KEPT1.out.block _ ?_ ?_).trans (heap_second _ _ _) <;> (simp <;> omega))
              | (refine (KEPT1.out.block _ ?_ ?_).trans (heap_first _ _ _) <;> (simp <;> omega))
          intro gg cap w2 own2 grow2 at2 lt2
          have K2 : Kept NB wa w2 := Kept.young (S := fun r => (Value.slice a1 code.length c1).ownBlock = some r) (by first | exact HK1.out | exact HK1.out.alloc _) ((Kept.refl _ _).grown grow2 (fun k hk => .inl hk)) (fun r hr => AT1.out r hr)
          have AT2 := Lib.hid (show wa.heap.size ≤ gg by
            rcases at2 with h | h
            · exact AT1.out _ h
            · rw [h]; first | exact HK1.out.size | exact (HK1.out.alloc _).size)
          have HT := Lib.hid (HB.out.set_code (code' := code ++ [x]) K2 (own_snoc own2) (fun k hk => by simp [Value.ownBlock] at hk; subst hk; exact HF.out _ AT2.out))
          obtain ⟨g1, g2, g3, g4, g5⟩ := HS2.out _ K2
          have HK2 := Lib.hid K2
          clear own2 grow2 at2 lt2 K2)))
  all_goals go_wp2_with fail
  all_goals (first | go_ret | skip)
  all_goals exact ⟨rfl, ⟨_, HT.out.1, fun k hk => by simp [Value.ownBlock] at hk; subst hk; exact Nat.le_trans HK.out.size AT2.out⟩, HK.out.trans HT.out.2⟩
end Go.Proofs.Ytdpoobkfhmmbjaa
