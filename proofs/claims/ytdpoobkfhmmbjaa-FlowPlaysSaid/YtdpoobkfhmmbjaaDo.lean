/- The walk of flow.Builder's Do: the words that are refused. -/
import Derived.Test.YtdpoobkfhmmbjaaRules
import Derived.Test.YtdpoobkfhmmbjaaInner
import Derived.Laws.EntriesVeiled
namespace Go.Proofs.Ytdpoobkfhmmbjaa
open Go.RowKit
open Go.MapKept (IsKey run_checkKey run_findKey run_setObj_map heap_alloc)
theorem run_look_ok {P : Program} {mty kt et : TypeId} (hm : P.underlying mty = some (.map kt et)) {ik : IntKind} (hk : P.underlying kt = some (.int ik)) {w : World} {r : Nat} {es : Array MapEntry} {clock : Nat} {k : Int}
    (hb : w.heap[r]? = some (.map es clock)) {i : Nat} {v : Value} (hf : Instr.findNow (.int ik) (.int ik k) es.toList 0 = some (some (i, v))) :
    (Instr.lookup mty (.map (some r)) (.int ik k) true).run P w = .ok (.tuple #[v, .bool true]) w := by
  have hc : ∀ e, (Instr.checkKey e 10000 kt (.int ik k)).run P w = .ok () w := fun e => run_checkKey (k := .int ik k) hk (by simp [IsKey]) e 9999
  simp [Instr.lookup, run_underlying hm, MapKept.run_getObj_map hb, hc, run_findKey hk hf, Result.andThen]
theorem run_look_none {P : Program} {mty kt et : TypeId} (hm : P.underlying mty = some (.map kt et)) {ik : IntKind} (hk : P.underlying kt = some (.int ik)) {w : World} {r : Nat} {es : Array MapEntry} {clock : Nat} {k : Int}
    (hb : w.heap[r]? = some (.map es clock)) {z : Value} (hz : (zeroValue et).run P w = .ok z w) (hf : Instr.findNow (.int ik) (.int ik k) es.toList 0 = some none) :
    (Instr.lookup mty (.map (some r)) (.int ik k) true).run P w = .ok (.tuple #[z, .bool false]) w := by
  have hc : ∀ e, (Instr.checkKey e 10000 kt (.int ik k)).run P w = .ok () w := fun e => run_checkKey (k := .int ik k) hk (by simp [IsKey]) e 9999
  simp [Instr.lookup, run_underlying hm, MapKept.run_getObj_map hb, hc, run_findKey hk hf, hz, Result.andThen]
theorem find_no (p bx : Nat) (A : Nat → Value) (n : Int) (h : n < 1 ∨ 17 < n) : Instr.findNow (.int .i64) (.int .i64 n) (rulesMap p bx A).toList 0 = some none := by
  have e : ∀ k : Int, 1 ≤ k → k ≤ 17 → (n == k) = false := by intro k h1 h2; simp; omega
  simp [rulesMap, ruleE, Instr.findNow, Instr.sameNow, e 1, e 2, e 3, e 4, e 5, e 6, e 7, e 8, e 9, e 10, e 11, e 12, e 13, e 14, e 15, e 16, e 17]
theorem find_yes (p bx : Nat) (A : Nat → Value) (n : Nat) (h1 : 1 ≤ n) (h2 : n ≤ 17) : Instr.findNow (.int .i64) (.int .i64 n) (rulesMap p bx A).toList 0 = some (some (n - 1, ruleV p bx A n)) := by
  match n, h1, h2 with
  | 1, _, _ => rfl | 2, _, _ => rfl | 3, _, _ => rfl | 4, _, _ => rfl | 5, _, _ => rfl | 6, _, _ => rfl | 7, _, _ => rfl | 8, _, _ => rfl | 9, _, _ => rfl
  | 10, _, _ => rfl | 11, _, _ => rfl | 12, _, _ => rfl | 13, _, _ => rfl | 14, _, _ => rfl | 15, _, _ => rfl | 16, _, _ => rfl | 17, _, _ => rfl
  | n + 18, _, h => exact absurd h (by omega)
theorem zero64 (w : World) : (zeroValue 64).run Try.prog w = .ok (.agg #[.slice none 0 0, .int .u8 0, .int .i64 0, .nilFunc]) w := by kernel_rfl
/-- What the look-up of a word's rule gives, in the world W behind 'rules'. -/
structure Word (w : World) (p : Nat) (n : Int) (W : World) (ks : List Int) (aa : Option Addr) (ac : Nat) (lay mor : Int) (k : Nat) (c1 c2 : Array Value) : Prop where
  look : (Instr.lookup 66 (.map (some (w.heap.size + 1))) (.int .i64 n) true).run Try.prog W = .ok (.tuple #[.agg #[.slice aa ks.length ac, .int .u8 lay, .int .i64 mor, .func (.func k) c1 c2], .bool true]) W
  row : W.ownsRow 0 3 1 (.slice aa ks.length ac) ks.length (ks.map intV)
  box : W.heap[w.heap.size]? = some (.cells #[.pointer (some ⟨p, 0, none⟩)] 24 (0, 0))
  kept : Kept (fun _ => False) w W
theorem RulesAt.word {w : World} {p : Nat} {A : Nat → Value} {W : World} (R : RulesAt w p A W) (n : Nat) (h1 : 1 ≤ n) (h2 : n ≤ 17) {k : Nat} {c1 c2 : Array Value} (hf : fnOf p w.heap.size n = .func (.func k) c1 c2) :
    ∃ aa ac, Word w p n W (asksOf n) aa ac (laysOf n) (moreOf n) k c1 c2 := by
  obtain ⟨aa, ac, hv, _, _, _⟩ := owns_slice (R.rows n h2)
  refine ⟨aa, ac, ?_, by rw [← hv]; exact R.rows n h2, R.box, R.kept⟩
  have := run_look_ok (P := Try.prog) (mty := 66) Try.underlying66 Try.underlying3 R.map (find_yes p w.heap.size A n h1 h2)
  rw [ruleV, hv, hf] at this
  exact this
theorem asks_short (n : Nat) (h2 : n ≤ 17) : (asksOf n).length < 9 := by
  match n, h2 with
  | 0, _ | 1, _ | 2, _ | 3, _ | 4, _ | 5, _ | 6, _ | 7, _ | 8, _ | 9, _ | 10, _ | 11, _ | 12, _ | 13, _ | 14, _ | 15, _ | 16, _ | 17, _ => decide
  | n + 18, h => exact absurd h (by omega)
section
variable {F : Nat → Prop} {w : World} {p : Nat} {vc vp : Value} {code : List I3} {ps : List (Prt × Value)}
set_option maxRecDepth 100000 in
set_option maxHeartbeats 2000000 in
theorem do_no (B : Bld F w p vc vp code ps) (n : Int) (h : n < 1 ∨ 17 < n) :
    Calls Try.prog 13 #[.pointer (some ⟨p, 0, none⟩), .int .i64 n] w fun e w' => e = .returned (.int .i64 1) ∧ Bld F w' p vc vp code ps ∧ Kept F w w' := by
  have HR := Lib.hid (rules_any w p)
  obtain ⟨a, c, rfl, h1, h2, h3⟩ := owns_slice B.code
  have HB := Lib.hid B
  clear B h3
  go_enter Try.func13, Try.ntmps13
  go_wp2_with (go_at_call 26; refine HR.out.mono ?_; rintro e w1 ⟨rfl, A, HA⟩
               have hl := run_look_none (P := Try.prog) (mty := 66) (kt := 3) (et := 64) Try.underlying66 Try.underlying3 (k := n) (w := w1) HA.map (zero64 w1) (find_no _ _ _ n h)
               have B1 := (HB.out.kept HA.kept (fun _ _ h => h)).alloc (.cells #[.slice none 0 0, .int .u8 0, .int .i64 0, .nilFunc] 64)
               have c0 : (w1.alloc (.cells #[.slice none 0 0, .int .u8 0, .int .i64 0, .nilFunc] 64)).cell? ⟨p, 0, none⟩ = some (.slice a code.length c) := by rw [cell_block B1.own]; rfl
               have HK1 := Lib.hid (((HA.kept).alloc (.cells #[.slice none 0 0, .int .u8 0, .int .i64 0, .nilFunc] 64)).mono (T := F) (fun _ h => h.elim))
               have HB1 := Lib.hid B1
               clear B1 HA)
  all_goals (first | go_ret | skip)
  all_goals exact ⟨rfl, HB1.out, HK1.out⟩
theorem fn_form (p bx n : Nat) (h1 : 1 ≤ n) (h2 : n ≤ 17) : ∃ k c1 c2, fnOf p bx n = .func (.func k) c1 c2 := by
  match n, h1, h2 with
  | 1, _, _ | 2, _, _ | 3, _, _ | 4, _, _ | 5, _, _ | 6, _, _ | 7, _, _ | 8, _, _ | 9, _, _ | 10, _, _ | 11, _, _ | 12, _, _ | 13, _, _ | 14, _, _ | 15, _, _ | 16, _, _ | 17, _, _ => exact ⟨_, _, _, rfl⟩
  | n + 18, _, h => exact absurd h (by omega)
set_option maxRecDepth 100000 in
set_option maxHeartbeats 4000000 in
theorem do_ctrl (B : Bld F w p vc vp code ps) (hpl : ps.length < 99) (n : Nat) (h1 : 1 ≤ n) (h2 : n ≤ 17) (hfit : fitsS (ps.map (·.1)).reverse (asksOf n) = false) :
    Calls Try.prog 13 #[.pointer (some ⟨p, 0, none⟩), .int .i64 n] w fun e w' => e = .returned (.int .i64 (-22)) ∧ (∃ vc' vp', Bld F w' p vc' vp' code ps) ∧ Kept F w w' := by
  have HR := Lib.hid (rules_any w p)
  obtain ⟨k, c1, c2, hf⟩ := fn_form p w.heap.size n h1 h2
  obtain ⟨a, c, rfl, g1, g2, g3⟩ := owns_slice B.code
  obtain ⟨a', c', rfl, g1', g2', g3'⟩ := owns_slice B.parts
  have HB := Lib.hid B
  have HWD := Lib.hid (fun A W (R : RulesAt w p A W) => R.word n h1 h2 hf)
  have hks := asks_short n h2
  generalize asksOf n = ks at *
  generalize laysOf n = lay at *
  generalize moreOf n = mor at *
  clear B g3 g3' hf
  generalize hfs : fitsS (ps.map (·.1)).reverse ks = fs at *
  subst hfit
  go_enter Try.func13, Try.ntmps13
  go_wp2_with (first
    | (go_at_call 26; refine HR.out.mono ?_; rintro e w1 ⟨rfl, A, HA⟩
       obtain ⟨aa, ac, HW⟩ := HWD.out A w1 HA
       have hl := HW.look
       have B1 := (HB.out.kept HA.kept (fun _ _ h => h)).alloc (.cells #[.slice aa ks.length ac, .int .u8 lay, .int .i64 mor, .func (.func k) c1 c2] 64)
       have cc0 : (w1.alloc (.cells #[.slice aa ks.length ac, .int .u8 lay, .int .i64 mor, .func (.func k) c1 c2] 64)).cell? ⟨p, 0, none⟩ = some (.slice a code.length c) := by rw [cell_block B1.own]; rfl
       have cc1 : (w1.alloc (.cells #[.slice aa ks.length ac, .int .u8 lay, .int .i64 mor, .func (.func k) c1 c2] 64)).cell? ⟨p, 1, none⟩ = some (.slice a' ps.length c') := by rw [cell_block B1.own]; rfl
       have HK1 := Lib.hid (((HA.kept).alloc (.cells #[.slice aa ks.length ac, .int .u8 lay, .int .i64 mor, .func (.func k) c1 c2] 64)).mono (T := F) (fun _ h => h.elim))
       have HFT := Lib.hid (fits_any B1 hpl ks (.slice aa ks.length ac) hks (owns_kept HW.row ((Kept.refl (fun _ => False) w1).alloc _) (fun _ _ h => h)))
       rw [hfs] at HFT
       have HB1 := Lib.hid B1
       clear B1 HA HW)
    | (go_at_call 27; refine HFT.out.mono ?_; rintro e w2 ⟨rfl, rfl⟩))
  all_goals (first | go_ret | skip)
  all_goals exact ⟨rfl, ⟨_, _, HB1.out⟩, HK1.out⟩
set_option maxRecDepth 100000 in
set_option maxHeartbeats 4000000 in
theorem do_room1 (B : Bld F w p vc vp code ps) (hpl : ps.length < 99) (n : Nat) (h1 : 1 ≤ n) (h2 : n ≤ 17) (hfit : fitsS (ps.map (·.1)).reverse (asksOf n) = true) (hn13 : n ≠ 13) (hl0 : laysOf n ≠ 0) (hlen : 499 ≤ code.length) :
    Calls Try.prog 13 #[.pointer (some ⟨p, 0, none⟩), .int .i64 n] w fun e w' => e = .returned (.int .i64 (-8)) ∧ (∃ vc' vp', Bld F w' p vc' vp' code ps) ∧ Kept F w w' := by
  have HR := Lib.hid (rules_any w p)
  obtain ⟨k, c1, c2, hf⟩ := fn_form p w.heap.size n h1 h2
  obtain ⟨a, c, rfl, g1, g2, g3⟩ := owns_slice B.code
  obtain ⟨a', c', rfl, g1', g2', g3'⟩ := owns_slice B.parts
  have HB := Lib.hid B
  have HWD := Lib.hid (fun A W (R : RulesAt w p A W) => R.word n h1 h2 hf)
  have hks := asks_short n h2
  generalize asksOf n = ks at *
  generalize laysOf n = lay at *
  generalize moreOf n = mor at *
  clear B g3 g3' hf
  generalize hfs : fitsS (ps.map (·.1)).reverse ks = fs at *
  subst hfit
  have hn : ((n : Int) == 13) = false := by simp; omega
  have hly : (lay != 0) = true := by simpa using hl0
  go_enter Try.func13, Try.ntmps13
  go_wp2_with (first
    | (go_at_call 26; refine HR.out.mono ?_; rintro e w1 ⟨rfl, A, HA⟩
       obtain ⟨aa, ac, HW⟩ := HWD.out A w1 HA
       have hl := HW.look
       have B1 := (HB.out.kept HA.kept (fun _ _ h => h)).alloc (.cells #[.slice aa ks.length ac, .int .u8 lay, .int .i64 mor, .func (.func k) c1 c2] 64)
       have cc0 : (w1.alloc (.cells #[.slice aa ks.length ac, .int .u8 lay, .int .i64 mor, .func (.func k) c1 c2] 64)).cell? ⟨p, 0, none⟩ = some (.slice a code.length c) := by rw [cell_block B1.own]; rfl
       have cc1 : (w1.alloc (.cells #[.slice aa ks.length ac, .int .u8 lay, .int .i64 mor, .func (.func k) c1 c2] 64)).cell? ⟨p, 1, none⟩ = some (.slice a' ps.length c') := by rw [cell_block B1.own]; rfl
       have HK1 := Lib.hid (((HA.kept).alloc (.cells #[.slice aa ks.length ac, .int .u8 lay, .int .i64 mor, .func (.func k) c1 c2] 64)).mono (T := F) (fun _ h => h.elim))
       have HFT := Lib.hid (fits_any B1 hpl ks (.slice aa ks.length ac) hks (owns_kept HW.row ((Kept.refl (fun _ => False) w1).alloc _) (fun _ _ h => h)))
       rw [hfs] at HFT
       have HB1 := Lib.hid B1
       clear B1 HA HW)
    | (go_at_call 27; refine HFT.out.mono ?_; rintro e w2 ⟨rfl, rfl⟩))
  all_goals (first | go_ret | skip)
  all_goals exact ⟨rfl, ⟨_, _, HB1.out⟩, HK1.out⟩
set_option maxRecDepth 100000 in
set_option maxHeartbeats 4000000 in
theorem do_room2 (B : Bld F w p vc vp code ps) (hpl : ps.length < 99) (n : Nat) (h1 : 1 ≤ n) (h2 : n ≤ 17) (hfit : fitsS (ps.map (·.1)).reverse (asksOf n) = true) (hn13 : n ≠ 13) (hl0 : laysOf n = 0) (hm : 0 < moreOf n) (hlen : 32 ≤ ps.length) :
    Calls Try.prog 13 #[.pointer (some ⟨p, 0, none⟩), .int .i64 n] w fun e w' => e = .returned (.int .i64 (-8)) ∧ (∃ vc' vp', Bld F w' p vc' vp' code ps) ∧ Kept F w w' := by
  have HR := Lib.hid (rules_any w p)
  obtain ⟨k, c1, c2, hf⟩ := fn_form p w.heap.size n h1 h2
  obtain ⟨a, c, rfl, g1, g2, g3⟩ := owns_slice B.code
  obtain ⟨a', c', rfl, g1', g2', g3'⟩ := owns_slice B.parts
  have HB := Lib.hid B
  have HWD := Lib.hid (fun A W (R : RulesAt w p A W) => R.word n h1 h2 hf)
  have hks := asks_short n h2
  generalize asksOf n = ks at *
  generalize laysOf n = lay at *
  generalize moreOf n = mor at *
  clear B g3 g3' hf
  generalize hfs : fitsS (ps.map (·.1)).reverse ks = fs at *
  subst hfit
  have hn : ((n : Int) == 13) = false := by simp; omega
  have hly : (lay != 0) = false := by simpa using hl0
  clear hl0
  go_enter Try.func13, Try.ntmps13
  go_wp2_with (first
    | (go_at_call 26; refine HR.out.mono ?_; rintro e w1 ⟨rfl, A, HA⟩
       obtain ⟨aa, ac, HW⟩ := HWD.out A w1 HA
       have hl := HW.look
       have B1 := (HB.out.kept HA.kept (fun _ _ h => h)).alloc (.cells #[.slice aa ks.length ac, .int .u8 lay, .int .i64 mor, .func (.func k) c1 c2] 64)
       have cc0 : (w1.alloc (.cells #[.slice aa ks.length ac, .int .u8 lay, .int .i64 mor, .func (.func k) c1 c2] 64)).cell? ⟨p, 0, none⟩ = some (.slice a code.length c) := by rw [cell_block B1.own]; rfl
       have cc1 : (w1.alloc (.cells #[.slice aa ks.length ac, .int .u8 lay, .int .i64 mor, .func (.func k) c1 c2] 64)).cell? ⟨p, 1, none⟩ = some (.slice a' ps.length c') := by rw [cell_block B1.own]; rfl
       have HK1 := Lib.hid (((HA.kept).alloc (.cells #[.slice aa ks.length ac, .int .u8 lay, .int .i64 mor, .func (.func k) c1 c2] 64)).mono (T := F) (fun _ h => h.elim))
       have HFT := Lib.hid (fits_any B1 hpl ks (.slice aa ks.length ac) hks (owns_kept HW.row ((Kept.refl (fun _ => False) w1).alloc _) (fun _ _ h => h)))
       rw [hfs] at HFT
       have HB1 := Lib.hid B1
       clear B1 HA HW)
    | (go_at_call 27; refine HFT.out.mono ?_; rintro e w2 ⟨rfl, rfl⟩))
  all_goals (first | go_ret | skip)
  all_goals exact ⟨rfl, ⟨_, _, HB1.out⟩, HK1.out⟩
set_option maxRecDepth 100000 in
set_option maxHeartbeats 4000000 in
theorem do_room3 (B : Bld F w p vc vp code ps) (hpl : ps.length < 99) (n : Nat) (h1 : 1 ≤ n) (h2 : n ≤ 17) (hfit : fitsS (ps.map (·.1)).reverse (asksOf n) = true) (hn13 : n ≠ 13) (hl0 : laysOf n ≠ 0) (hc : code.length < 499) (hm : 0 < moreOf n) (hlen : 32 ≤ ps.length) :
    Calls Try.prog 13 #[.pointer (some ⟨p, 0, none⟩), .int .i64 n] w fun e w' => e = .returned (.int .i64 (-8)) ∧ (∃ vc' vp', Bld F w' p vc' vp' code ps) ∧ Kept F w w' := by
  have HR := Lib.hid (rules_any w p)
  obtain ⟨k, c1, c2, hf⟩ := fn_form p w.heap.size n h1 h2
  obtain ⟨a, c, rfl, g1, g2, g3⟩ := owns_slice B.code
  obtain ⟨a', c', rfl, g1', g2', g3'⟩ := owns_slice B.parts
  have HB := Lib.hid B
  have HWD := Lib.hid (fun A W (R : RulesAt w p A W) => R.word n h1 h2 hf)
  have hks := asks_short n h2
  generalize asksOf n = ks at *
  generalize laysOf n = lay at *
  generalize moreOf n = mor at *
  clear B g3 g3' hf
  generalize hfs : fitsS (ps.map (·.1)).reverse ks = fs at *
  subst hfit
  have hn : ((n : Int) == 13) = false := by simp; omega
  have hly : (lay != 0) = true := by simpa using hl0
  go_enter Try.func13, Try.ntmps13
  go_wp2_with (first
    | (go_at_call 26; refine HR.out.mono ?_; rintro e w1 ⟨rfl, A, HA⟩
       obtain ⟨aa, ac, HW⟩ := HWD.out A w1 HA
       have hl := HW.look
       have B1 := (HB.out.kept HA.kept (fun _ _ h => h)).alloc (.cells #[.slice aa ks.length ac, .int .u8 lay, .int .i64 mor, .func (.func k) c1 c2] 64)
       have cc0 : (w1.alloc (.cells #[.slice aa ks.length ac, .int .u8 lay, .int .i64 mor, .func (.func k) c1 c2] 64)).cell? ⟨p, 0, none⟩ = some (.slice a code.length c) := by rw [cell_block B1.own]; rfl
       have cc1 : (w1.alloc (.cells #[.slice aa ks.length ac, .int .u8 lay, .int .i64 mor, .func (.func k) c1 c2] 64)).cell? ⟨p, 1, none⟩ = some (.slice a' ps.length c') := by rw [cell_block B1.own]; rfl
       have HK1 := Lib.hid (((HA.kept).alloc (.cells #[.slice aa ks.length ac, .int .u8 lay, .int .i64 mor, .func (.func k) c1 c2] 64)).mono (T := F) (fun _ h => h.elim))
       have HFT := Lib.hid (fits_any B1 hpl ks (.slice aa ks.length ac) hks (owns_kept HW.row ((Kept.refl (fun _ => False) w1).alloc _) (fun _ _ h => h)))
       rw [hfs] at HFT
       have HB1 := Lib.hid B1
       clear B1 HA HW)
    | (go_at_call 27; refine HFT.out.mono ?_; rintro e w2 ⟨rfl, rfl⟩))
  all_goals (first | go_ret | skip)
  all_goals exact ⟨rfl, ⟨_, _, HB1.out⟩, HK1.out⟩
theorem Kept.ofBelow {S : Nat → Prop} {w w' : World} (h : Below w.heap.size w w') : Kept S w w' := ⟨h.os, h.tape, h.output, h.size, fun r hr _ => h.block r hr⟩
theorem Bld.belowW {w' : World} (B : Bld F w p vc vp code ps) (h : Below w.heap.size w w') : Bld F w' p vc vp code ps := B.kept (Kept.ofBelow (S := fun _ => False) h) (fun _ _ h => h)
set_option maxRecDepth 100000 in
set_option maxHeartbeats 4000000 in
theorem do_leave0 (B : Bld F w p vc vp code []) :
    Calls Try.prog 13 #[.pointer (some ⟨p, 0, none⟩), .int .i64 13] w fun e w' => e = .returned (.int .i64 (-22)) ∧ (∃ vc' vp', Bld F w' p vc' vp' code []) ∧ Kept F w w' := by
  have HR := Lib.hid (rules_any w p)
  obtain ⟨k, c1, c2, hf⟩ := fn_form p w.heap.size 13 (by decide) (by decide)
  obtain ⟨a, c, rfl, g1, g2, g3⟩ := owns_slice B.code
  obtain ⟨a', c', rfl, g1', g2', g3'⟩ := owns_slice B.parts
  have HB := Lib.hid B
  have HWD := Lib.hid (fun A W (R : RulesAt w p A W) => RulesAt.word R 13 (by decide) (by decide) hf)
  have hks := asks_short 13 (by decide)
  rw [show asksOf 13 = [] from rfl] at *
  generalize laysOf 13 = lay at *
  generalize moreOf 13 = mor at *
  clear B g3 g3' hf
  go_enter Try.func13, Try.ntmps13
  go_wp2_with (first
    | (go_at_call 26; refine HR.out.mono ?_; rintro e w1 ⟨rfl, A, HA⟩
       obtain ⟨aa, ac, HW⟩ := HWD.out A w1 HA
       have hl : (Instr.lookup 66 (.map (some (w.heap.size + 1))) (.int .i64 13) true).run Try.prog w1 = _ := HW.look
       have B1 := (HB.out.kept HA.kept (fun _ _ h => h)).alloc (.cells #[.slice aa 0 ac, .int .u8 lay, .int .i64 mor, .func (.func k) c1 c2] 64)
       have cc0 : (w1.alloc (.cells #[.slice aa 0 ac, .int .u8 lay, .int .i64 mor, .func (.func k) c1 c2] 64)).cell? ⟨p, 0, none⟩ = some (.slice a code.length c) := by rw [cell_block B1.own]; rfl
       have cc1 : (w1.alloc (.cells #[.slice aa 0 ac, .int .u8 lay, .int .i64 mor, .func (.func k) c1 c2] 64)).cell? ⟨p, 1, none⟩ = some (.slice a' 0 c') := by rw [cell_block B1.own]; rfl
       have HK1 := Lib.hid (((HA.kept).alloc (.cells #[.slice aa 0 ac, .int .u8 lay, .int .i64 mor, .func (.func k) c1 c2] 64)).mono (T := F) (fun _ h => h.elim))
       have HFT := Lib.hid (fits_any B1 (by simp) [] (.slice aa 0 ac) hks (owns_kept HW.row ((Kept.refl (fun _ => False) w1).alloc _) (fun _ _ h => h)))
       have HIN := Lib.hid (inner_empty B1)
       have HB1 := Lib.hid B1
       clear B1 HA HW)
    | (go_at_call 27; refine HFT.out.mono ?_; rintro e w2 ⟨rfl, rfl⟩)
    | (go_at_call 28; refine HIN.out.mono ?_; rintro e w3 ⟨rfl, hbw⟩
       have HB3 := Lib.hid (Bld.belowW HB1.out hbw)
       have HK3 := Lib.hid (HK1.out.trans (Kept.ofBelow hbw))
       clear hbw))
  all_goals (first | go_ret | skip)
  all_goals exact ⟨rfl, ⟨_, _, HB3.out⟩, HK3.out⟩
end
end Go.Proofs.Ytdpoobkfhmmbjaa
