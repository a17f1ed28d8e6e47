/- The walks of flow.New, Open, Len, Put. -/
import Derived.Test.YtdpoobkfhmmbjaaLib
import Derived.Deep.RegionLaw
import Derived.Deep.AppendLies
import Derived.OwnWalk
namespace Go.Proofs.Ytdpoobkfhmmbjaa
open Go.RowKit
theorem new_any (F : Nat → Prop) (w : World) (hF : ∀ r, w.heap.size ≤ r → F r) : Calls Try.prog 12 #[] w fun e w' => ∃ p, e = .returned (.pointer (some ⟨p, 0, none⟩)) ∧ w.heap.size ≤ p ∧ BldE F w' p [] [] ∧ Kept F w w' := by
  have HN := Lib.hid (show BldE F (w.alloc (.cells #[.slice none 0 0, .slice none 0 0] 61)) w.heap.size [] [] from
    ⟨.slice none 0 0, .slice none 0 0, [], ⟨(MapKept.heap_alloc w _).1, World.ownsRow_nil _ _ _ _, World.ownsRow_nil _ _ _ _, by simp, .nil, hF _ (Nat.le_refl _), by simp [Value.ownBlock], by simp [Value.ownBlock], by simp⟩, rfl⟩)
  have HK := Lib.hid ((Kept.refl F w).alloc (.cells #[.slice none 0 0, .slice none 0 0] 61))
  go_enter Try.func12, Try.ntmps12
  go_wp2
  all_goals (first | go_ret | skip)
  all_goals exact ⟨_, rfl, Nat.le_refl _, HN.out, HK.out⟩
section
variable {F : Nat → Prop} {w : World} {p : Nat} {vc vp : Value} {code : List I3} {ps : List (Prt × Value)}
theorem owns_slice {base : Nat} {e : TypeId} {size : Nat} {v : Value} {n : Nat} {xs : List Value} (h : w.ownsRow base e size v n xs) : ∃ a c, v = .slice a n c ∧ n ≤ c ∧ c ≤ maxLen ∧ (a = none → n = 0 ∧ c = 0) := by
  rcases h.2 with ⟨rfl, rfl⟩ | ⟨g, cap, cur, rfl, _, _, hn, hm, _⟩
  · exact ⟨none, 0, rfl, Nat.le_refl _, by simp [maxLen], fun _ => ⟨rfl, rfl⟩⟩
  · exact ⟨_, _, rfl, hn, hm, by simp⟩
theorem open_any (B : Bld F w p vc vp code ps) : Calls Try.prog 19 #[.pointer (some ⟨p, 0, none⟩)] w fun e w' => e = .returned (.int .i64 (ps.length : Int)) ∧ w = w' := by
  obtain ⟨a, c, rfl, h1, h2, h3⟩ := owns_slice B.parts
  have c1 : w.cell? ⟨p, 1, none⟩ = some (.slice a ps.length c) := by rw [cell_block B.own]; rfl
  clear B h3
  go_enter Try.func19, Try.ntmps19
  go_wp2
  all_goals (first | (go_ret; exact ⟨rfl, rfl⟩) | exact ⟨rfl, rfl⟩)
theorem len_any (B : Bld F w p vc vp code ps) : Calls Try.prog 23 #[.pointer (some ⟨p, 0, none⟩)] w fun e w' => e = .returned (.int .i64 (code.length : Int)) ∧ w = w' := by
  obtain ⟨a, c, rfl, h1, h2, h3⟩ := owns_slice B.code
  have c1 : w.cell? ⟨p, 0, none⟩ = some (.slice a code.length c) := by rw [cell_block B.own]; rfl
  clear B h3
  go_enter Try.func23, Try.ntmps23
  go_wp2
  all_goals (first | (go_ret; exact ⟨rfl, rfl⟩) | exact ⟨rfl, rfl⟩)
theorem Bld.kept {S : Nat → Prop} {w' : World} (B : Bld F w p vc vp code ps) (K : Kept S w w') (h : ∀ r, F r → ¬ S r) : Bld F w' p vc vp code ps :=
  ⟨(K.block p (Array.getElem?_eq_some_iff.1 B.own).1 (h _ B.fp)).trans B.own, owns_kept B.code K (fun k hk => h _ (B.fc k hk)), owns_kept B.parts K (fun k hk => h _ (B.fq k hk)),
    fun q hq => owns_kept (B.gaps q hq) K (fun k hk => h _ (B.fg q hq k hk)), B.apart, B.fp, B.fc, B.fq, B.fg⟩
theorem Bld.alloc (B : Bld F w p vc vp code ps) (o : Obj) : Bld F (w.alloc o) p vc vp code ps := B.kept ((Kept.refl (fun _ => False) w).alloc o) (fun _ _ h => h)
theorem owns_ne {base : Nat} {e : TypeId} {size : Nat} {v : Value} {n : Nat} {xs : List Value} (h : w.ownsRow base e size v n xs) {q : Nat} {cs : Array Value} {t : TypeId} (hq : w.heap[q]? = some (.cells cs t (0, 0))) (he : e ≠ t) : v.ownBlock ≠ some q := by
  intro h3
  obtain ⟨c1, k1⟩ := owns_block h h3
  rw [hq] at k1
  injection k1 with k3
  injection k3 with _ k4
  exact he k4.symm
theorem own_set0 {w1 : World} {v1 v2 u : Value} (h : w1.heap[p]? = some (.cells #[v1, v2] 61 (0, 0))) : (w1.setCell ⟨p, 0, none⟩ u).heap[p]? = some (.cells #[u, v2] 61 (0, 0)) := by
  rw [setCell_eq_setRow w1 p 0 _ _ _ _ h, setRow_heap w1 p _ _ _ _ h]; rfl
theorem own_set1 {w1 : World} {v1 v2 u : Value} (h : w1.heap[p]? = some (.cells #[v1, v2] 61 (0, 0))) : (w1.setCell ⟨p, 1, none⟩ u).heap[p]? = some (.cells #[v1, u] 61 (0, 0)) := by
  rw [setCell_eq_setRow w1 p 1 _ _ _ _ h, setRow_heap w1 p _ _ _ _ h]; rfl
theorem kept_at (w1 : World) (q : Addr) (u : Value) : Kept (fun r => r = q.block) w1 (w1.setCell q u) := (Kept.refl (fun r => r = q.block) w1).setCell (q := q) (.inl rfl) u
/-- behind 'b.code = append(b.code, x)' -/
theorem Bld.put_code (B : Bld F w p vc vp code ps) {w1 : World} {v' : Value} (x : I3) (own1 : w1.ownsRow 0 31 3 v' (code.length + 1) (codeV code ++ insV x)) (g : w.grownBy w1 vc.ownBlock) (hv : ∀ k, v'.ownBlock = some k → F k) :
    Bld F (w1.setCell ⟨p, 0, none⟩ v') p v' vp (code ++ [x]) ps ∧ Kept F w (w1.setCell ⟨p, 0, none⟩ v') := by
  have K1 : Kept (fun r => vc.ownBlock = some r) w w1 := (Kept.refl _ w).grown g (fun k hk => .inl hk)
  have hp := Array.getElem?_eq_some_iff.1 B.own
  have hp1 : w1.heap[p]? = some (.cells #[vc, vp] 61 (0, 0)) := (K1.block p hp.1 (owns_ne B.code B.own (by decide))).trans B.own
  have hq1 : w1.ownsRow 0 85 3 vp ps.length (partsV ps) := owns_kept B.parts K1 (fun k hk h => by
    rcases owns_apart B.code B.parts (by decide) with h1 | h1
    · rw [h1] at h; cases h
    · exact h1 (h.trans hk.symm))
  have hg1 : ∀ q ∈ ps, w1.ownsRow 0 3 1 q.2 q.1.gaps.length (q.1.gaps.map intV) := fun q hq => owns_kept (B.gaps q hq) K1 (fun k hk h => by
    rcases owns_apart B.code (B.gaps q hq) (by decide) with h1 | h1
    · rw [h1] at h; cases h
    · exact h1 (h.trans hk.symm))
  have K2 := kept_at w1 ⟨p, 0, none⟩ v'
  refine ⟨⟨own_set0 hp1, ?_, owns_kept hq1 K2 (fun k hk h => owns_ne hq1 hp1 (by decide) (by rw [hk]; exact congrArg some h)), fun q hq => owns_kept (hg1 q hq) K2 (fun k hk h => owns_ne (hg1 q hq) hp1 (by decide) (by rw [hk]; exact congrArg some h)), B.apart, B.fp, hv, B.fq, B.fg⟩, ?_⟩
  · have := owns_kept own1 K2 (fun k hk h => owns_ne own1 hp1 (by decide) (by rw [hk]; exact congrArg some h))
    simpa [codeV, List.flatMap_append] using this
  · exact (K1.mono (fun r hr => B.fc r hr)).trans (K2.mono (fun r hr => by rw [hr]; exact B.fp))
def insC (x : I3) : Array Value := #[.int .u8 x.1, .int .i64 x.2.1, .int .i64 x.2.2]
set_option maxRecDepth 100000 in
theorem put_full (B : Bld F w p vc vp code ps) (x : I3) (h : 499 ≤ code.length) : Calls Try.prog 14 #[.pointer (some ⟨p, 0, none⟩), .agg (insC x)] w fun e w' => e = .returned (.int .i64 (-8)) ∧ Bld F w' p vc vp code ps ∧ Kept F w w' := by
  have BA := B.alloc (.cells (insC x) 31)
  have HK := Lib.hid ((Kept.refl F w).alloc (.cells (insC x) 31))
  obtain ⟨a, c, rfl, h1, h2, h3⟩ := owns_slice B.code
  have c1 : (w.alloc (.cells (insC x) 31)).cell? ⟨p, 0, none⟩ = some (.slice a code.length c) := by rw [cell_block BA.own]; rfl
  have HB := Lib.hid BA
  unfold insC at *
  clear B h3 BA
  go_enter Try.func14, Try.ntmps14
  go_wp2
  all_goals (first | go_ret | skip)
  all_goals exact ⟨rfl, HB.out, HK.out⟩
theorem info31 : (Try.prog.info? 31).map (fun i => (i.zero, i.size, i.bytes)) = some (some (.agg #[.int .u8 0, .int .i64 0, .int .i64 0]), 3, 24) := by kernel_rfl
set_option maxRecDepth 100000 in
theorem put_room (B : Bld F w p vc vp code ps) (hF : ∀ r, w.heap.size ≤ r → F r) (x : I3) (h : code.length < 499) : Calls Try.prog 14 #[.pointer (some ⟨p, 0, none⟩), .agg (insC x)] w fun e w' => e = .returned (.int .i64 0) ∧ (∃ vc', Bld F w' p vc' vp (code ++ [x]) ps) ∧ Kept F w w' := by
  have BA := B.alloc (.cells (insC x) 31)
  have HK := Lib.hid ((Kept.refl F w).alloc (.cells (insC x) 31))
  obtain ⟨a, c, hv, h1, h2, h3⟩ := owns_slice B.code
  have c1 : (w.alloc (.cells (insC x) 31)).cell? ⟨p, 0, none⟩ = some vc := by rw [cell_block BA.own]; rfl
  have f1 : (w.alloc (.cells (insC x) 31)).frozen? ⟨p, 0, none⟩ = false := frozen_block BA.own 0
  have b0 := (MapKept.heap_alloc w (.cells (insC x) 31)).1
  have d0 : (w.alloc (.cells (insC x) 31)).cell? ⟨w.heap.size, 0, none⟩ = some (.int .u8 x.1) := by rw [cell_block b0]; rfl
  have d1 : (w.alloc (.cells (insC x) 31)).cell? ⟨w.heap.size, 1, none⟩ = some (.int .i64 x.2.1) := by rw [cell_block b0]; rfl
  have d2 : (w.alloc (.cells (insC x) 31)).cell? ⟨w.heap.size, 2, none⟩ = some (.int .i64 x.2.2) := by rw [cell_block b0]; rfl
  have HB := Lib.hid BA
  subst hv
  unfold insC at *
  clear B h3 BA b0
  have HF := Lib.hid hF
  have HS := Lib.hid (show w.heap.size ≤ (w.alloc (.cells #[.int .u8 x.1, .int .i64 x.2.1, .int .i64 x.2.2] 31)).heap.size by simp)
  clear hF
  generalize hwa : w.alloc (.cells #[.int .u8 x.1, .int .i64 x.2.1, .int .i64 x.2.2] 31) = wa at *
  have HWA := Lib.hid hwa
  have HB2 := Lib.hid (HB.out.kept (((Kept.refl (fun _ => False) wa).alloc (.cells #[.int .u8 x.1, .int .i64 x.2.1, .int .i64 x.2.2] 31)).drew) (fun _ _ h => h))
  go_enter Try.func14, Try.ntmps14
  go_wp2_with fail
  clear hwa
  have c1b : (wa.alloc (.cells #[.int .u8 x.1, .int .i64 x.2.1, .int .i64 x.2.2] 31)).cell? ⟨p, 0, none⟩ = some (.slice a code.length c) := by rw [← World.cell?_drew, cell_block HB2.out.own]; rfl
  obtain ⟨i0, hi0, hz0, hz1, hz2⟩ := info_parts info31
  go_region_law (first
    | (refine step_append_lies _ (by rfl) _ _ _ (by rfl) 0 31 i0 _ 3 24 Try.underlying32 hi0 hz0 hz1 hz2 rfl (by omega) (.slice a code.length c) code.length (codeV code) (by rfl) ((HB.out.code.alloc _).drew) ⟨wa.heap.size, 0, none⟩ 1 1 [.int .u8 x.1, .int .i64 x.2.1, .int .i64 x.2.2] (by rfl) (by rfl) (World.news_of_block (cs := #[.int .u8 x.1, .int .i64 x.2.1, .int .i64 x.2.2]) (t := 31) (fr := (0, 0)) (heap_alloc_new wa _)) (by simp [Value.oneCell']) (by omega) (by simp only [maxLen]; omega) (by omega) (by omega) (wa.heap.size + 1) (by simp) ?_; intro gg cap w1 hown1 hgrow hat hlt
       have HT := Lib.hid (HB2.out.put_code x hown1 hgrow (fun k hk => by simp [Value.ownBlock] at hk; subst hk; rcases hat with h | h; exact HB2.out.fc _ h; exact HF.out _ (by rw [h]; have := HS.out; omega)))
       have K1 : Kept (fun r => (Value.slice a code.length c).ownBlock = some r) _ w1 := (Kept.refl _ _).grown hgrow (fun k hk => .inl hk)
       have hp1 := (K1.block p (Array.getElem?_eq_some_iff.1 HB2.out.own).1 (owns_ne HB2.out.code HB2.out.own (by decide))).trans HB2.out.own
       have c2 : w1.cell? ⟨p, 0, none⟩ = some (.slice a code.length c) := by rw [cell_block hp1]; rfl
       have f2 : w1.frozen? ⟨p, 0, none⟩ = false := frozen_block hp1 0
       clear K1 hp1 hgrow hown1 hat hlt))
  all_goals go_wp2_with fail
  all_goals (first | go_ret | skip)
  all_goals exact ⟨rfl, ⟨_, HT.out.1⟩, ((HK.out.alloc _).drew).trans HT.out.2⟩
end
end Go.Proofs.Ytdpoobkfhmmbjaa
