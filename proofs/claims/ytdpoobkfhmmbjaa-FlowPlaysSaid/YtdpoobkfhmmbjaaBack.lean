/- The walks of flow.Builder's back, repeat, again. -/
import Derived.Test.YtdpoobkfhmmbjaaActs
import Derived.Deep.RegionHeld3
import Derived.StillTailTactics
namespace Go.Proofs.Ytdpoobkfhmmbjaa
open Go.RowKit
section
variable {F : Nat → Prop} {w : World} {p : Nat} {vc vp : Value} {code : List I3} {ps : List (Prt × Value)}
theorem cell_off (w : World) (q a : Addr) (u : Value) (h : a.block ≠ q.block) : (w.setCell q u).cell? a = w.cell? a := World.cell?_of_block (Below.heap_setCell w q u a.block h)
/-- the cells of the instruction n's place -/
theorem Bld.at_cell (B : Bld F w p vc vp code ps) {n : Nat} (hn : n < code.length) : ∃ cb c, vc = .slice (some ⟨cb, 0, none⟩) code.length c ∧ ∀ (w' : World) (vp' : Value) (ps' : List (Prt × Value)), Bld F w' p vc vp' code ps' → w'.cell? ⟨p, 0, none⟩ = some vc ∧ (∃ u, w'.cell? ⟨cb, n * 3 + 1, none⟩ = some (.int .i64 u)) ∧ w'.frozen? ⟨cb, n * 3 + 1, none⟩ = false := by
  obtain ⟨a, c, rfl, h1, h2, h3⟩ := owns_slice B.code
  obtain ⟨y, hy⟩ : ∃ y, code[n]? = some y := ⟨_, List.getElem?_eq_getElem hn⟩
  obtain ⟨cb, rfl, hcy, hfy⟩ := owns_cell B.code (codeV_get _ n y hy).2.1
  refine ⟨cb, c, rfl, fun w' vp' ps' B' => ?_⟩
  obtain ⟨cb', h, hcy', hfy'⟩ := owns_cell B'.code (codeV_get _ n y hy).2.1
  cases h
  exact ⟨by rw [cell_block B'.own]; rfl, ⟨_, hcy'⟩, hfy'⟩
theorem Bld.drew (B : Bld F w p vc vp code ps) : Bld F w.drew p vc vp code ps := B.kept (Kept.refl (fun _ => False) w).drew (fun _ _ h => h)
set_option maxRecDepth 100000 in
theorem back_any {q : Prt × Value} (B : Bld F w p vc vp code (ps ++ [q])) (n : Nat) (hn : n < code.length) (_hl : code.length < 600) :
    Calls Try.prog 47 #[.pointer (some ⟨p, 0, none⟩), .int .i64 n] w fun e w' => e = .returned (.tuple #[]) ∧ (∃ vp', Bld F w' p vc vp' (setA code n q.1.at_) ps) ∧ Kept F w w' := by
  obtain ⟨cb, c, rfl, hc⟩ := B.at_cell hn
  have HC := Lib.hid hc
  have HT := Lib.hid (take_any B.drew)
  have HA := Lib.hid (hc _ _ _ B.drew)
  have hb2 : (0 : Int) ≤ (n : Int) := by omega
  have hb3 : (n : Int) < (code.length : Int) := by omega
  have hb4 : ((n : Int)).toNat = n := by omega
  clear B hc
  have hf1 := field85_1
  go_enter Try.func47, Try.ntmps47
  go_region_held3 (fun w' => w'.cell? ⟨p, 0, none⟩ = some (.slice (some ⟨cb, 0, none⟩) code.length c))
    (first | exact HA.out.1 | exact HS3.out | exact HS.out.1)
    (first
      | (go_at_call 64; refine HT.out.mono ?_; rintro e w1 ⟨rfl, ⟨vp', B1⟩, K1, Q1⟩
         have HS := Lib.hid (HC.out _ _ _ B1)
         obtain ⟨_, ⟨u, hu⟩, hfu⟩ := HS.out
         have HN := Lib.hid (B1.set_code n hn q.1.at_)
         have HS3 := Lib.hid (show (w1.setCell ⟨cb, n * 3 + 1, none⟩ (.int .i64 q.1.at_)).cell? ⟨p, 0, none⟩ = some (.slice (some ⟨cb, 0, none⟩) code.length c) by rw [cell_block HN.out.1.own]; rfl)
         have HK1 := Lib.hid K1
         clear B1 K1 Q1))
  all_goals (first | go_end0 | skip)
  all_goals exact ⟨rfl, ⟨_, HN.out.1⟩, ((Kept.refl F w).drew.trans HK1.out).trans HN.out.2⟩
set_option maxRecDepth 100000 in
theorem repeat_any {q q2 : Prt × Value} (B : Bld F w p vc vp code (ps ++ [q2] ++ [q])) (n : Nat) (hn : n < code.length) (hl : code.length < 600) (hat : 0 ≤ q2.1.at_ ∧ q2.1.at_ < code.length) :
    Calls Try.prog 46 #[.pointer (some ⟨p, 0, none⟩), .int .i64 n] w fun e w' => e = .returned (.tuple #[]) ∧ (∃ vp', Bld F w' p vc vp' (setA (setA code n q.1.at_) q2.1.at_.toNat code.length) ps) ∧ Kept F w w' := by
  have HT := Lib.hid (back_any B n hn hl)
  clear B
  go_enter Try.func46, Try.ntmps46
  go_wp2_with (first
    | (go_at_call 47; refine HT.out.mono ?_; rintro e w1 ⟨rfl, ⟨vp', B1⟩, K1⟩
       have HC := Lib.hid (then_any B1 (by rw [setA_length]; exact hl) (by rw [setA_length]; exact hat) n)
       have HK1 := Lib.hid K1
       clear B1 K1)
    | (go_at_call 43; refine HC.out.mono ?_; rintro e w2 ⟨rfl, B2, K2⟩
       rw [setA_length] at B2
       have HB2 := Lib.hid B2
       have HK2 := Lib.hid (HK1.out.trans K2)
       clear B2 K2))
  all_goals (first | go_end0 | skip)
  all_goals exact ⟨rfl, HB2.out, HK2.out⟩
set_option maxRecDepth 100000 in
theorem again_any {q : Prt × Value} (B : Bld F w p vc vp code (ps ++ [q])) (n : Nat) (hn : n < code.length) (hl : code.length < 600) (hat : ∀ g ∈ q.1.gaps, 0 ≤ g ∧ g < code.length) :
    Calls Try.prog 50 #[.pointer (some ⟨p, 0, none⟩), .int .i64 n] w fun e w' => e = .returned (.tuple #[]) ∧ (∃ vp', Bld F w' p vc vp' (closeG (setA code n q.1.at_) q.1.gaps) ps) ∧ Kept F w w' := by
  obtain ⟨⟨kind, at_, gaps⟩, qv⟩ := q
  obtain ⟨qa, qc, hq, hq1, hq2, hq3⟩ := owns_slice (B.gaps (⟨kind, at_, gaps⟩, qv) (by simp))
  dsimp only at hq hq1 hq2 hq3 hat
  subst hq
  obtain ⟨cb, c, rfl, hc⟩ := B.at_cell hn
  have HC := Lib.hid hc
  have HT := Lib.hid (take_any B)
  have hb2 : (0 : Int) ≤ (n : Int) := by omega
  have hb3 : (n : Int) < (code.length : Int) := by omega
  have hb4 : ((n : Int)).toNat = n := by omega
  clear B hc hq3
  go_enter Try.func50, Try.ntmps50
  go_wp2_with (first
    | (go_at_call 64; refine HT.out.mono ?_; rintro e w1 ⟨rfl, ⟨vp', B1⟩, K1, Q1⟩
       dsimp only at *
       have BA := B1.alloc (.cells #[.int .i64 kind, .int .i64 at_, .slice qa gaps.length qc] 85)
       obtain ⟨c0, ⟨u, hu⟩, hfu⟩ := HC.out _ _ _ BA
       have b0 := (MapKept.heap_alloc w1 (.cells #[.int .i64 kind, .int .i64 at_, .slice qa gaps.length qc] 85)).1
       have d1 : (w1.alloc (.cells #[.int .i64 kind, .int .i64 at_, .slice qa gaps.length qc] 85)).cell? ⟨w1.heap.size, 1, none⟩ = some (.int .i64 at_) := by rw [cell_block b0]; rfl
       have HB1 := Lib.hid B1
       have HK1 := Lib.hid K1
       have HQ1 := Lib.hid Q1
       clear B1 K1 Q1 BA b0))
  have hne : w1.heap.size ≠ cb := fun h => Nat.lt_irrefl _ (h ▸ owns_lt HB1.out.code rfl)
  have HX := Lib.hid (show (w1.alloc (.cells #[.int .i64 kind, .int .i64 at_, .slice qa gaps.length qc] 85)).heap[w1.heap.size]? = some (.cells #[.int .i64 kind, .int .i64 at_, .slice qa gaps.length qc] 85 (0, 0)) from (MapKept.heap_alloc w1 _).1)
  have HB3 := Lib.hid (HB1.out.alloc (.cells #[.int .i64 kind, .int .i64 at_, .slice qa gaps.length qc] 85))
  have HQ3 := Lib.hid (show (w1.alloc (.cells #[.int .i64 kind, .int .i64 at_, .slice qa gaps.length qc] 85)).ownsRow 0 3 1 _ _ _ from owns_kept HQ1.out ((Kept.refl (fun _ => False) w1).alloc (.cells #[.int .i64 kind, .int .i64 at_, .slice qa gaps.length qc] 85)) (fun _ _ h => h))
  have HK3 := Lib.hid (HK1.out.alloc (.cells #[.int .i64 kind, .int .i64 at_, .slice qa gaps.length qc] 85))
  have HAP := Lib.hid (owns_apart HQ1.out HB1.out.code (by decide))
  clear HB1 HQ1 HK1
  generalize (w1.alloc (.cells #[.int .i64 kind, .int .i64 at_, .slice qa gaps.length qc] 85)) = wa at *
  generalize w1.heap.size = tb at *
  go_still_tail 9, (by kernel_rfl)
  clear hb2 hb3 hb4
  have d2 : (wa.drew.setCell ⟨cb, n * 3 + 1, none⟩ (.int .i64 at_)).cell? ⟨tb, 2, none⟩ = some (.slice qa gaps.length qc) := by
    rw [cell_off _ _ _ _ hne, World.cell?_drew, cell_block HX.out]; rfl
  have hu3 : wa.drew.cell? ⟨cb, n * 3 + 1, none⟩ = some (.int .i64 u) := hu
  have hfu3 : wa.drew.frozen? ⟨cb, n * 3 + 1, none⟩ = false := hfu
  have HS := Lib.hid (HB3.out.drew.set_code n hn at_)
  have HQ := Lib.hid (owns_off (q := ⟨cb, n * 3 + 1, none⟩) (show wa.drew.ownsRow 0 3 1 _ _ _ from HQ3.out) (fun h => by
        rcases HAP.out with h1 | h1
        · rw [h1] at h; cases h
        · exact h1 h) (.int .i64 at_))
  have HK := Lib.hid (HK3.out.drew)
  clear c0 hu hfu d1
  change wpList _ _ _ _ _ wa.drew
  generalize wa.drew = wd at *
  have HC2 := Lib.hid (close_any HS.out.1 gaps (.slice qa gaps.length qc) (by rw [setA_length]; exact hl) HQ.out (by rw [setA_length]; exact hat))
  go_wp2_with (go_at_call 63; refine HC2.out.mono ?_; rintro e w2 ⟨rfl, B2, K2⟩
               have HB2 := Lib.hid B2
               have HK2 := Lib.hid ((HK.out.trans HS.out.2).trans K2)
               clear B2 K2)
  all_goals (first | go_end0 | skip)
  all_goals exact ⟨rfl, ⟨_, HB2.out⟩, HK2.out⟩
end
end Go.Proofs.Ytdpoobkfhmmbjaa
