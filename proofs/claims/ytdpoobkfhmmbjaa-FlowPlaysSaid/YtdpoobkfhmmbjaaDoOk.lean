/- The walk of flow.Builder's Do: the words that are done. -/
import Derived.Test.YtdpoobkfhmmbjaaDo
namespace Go.Proofs.Ytdpoobkfhmmbjaa
open Go.RowKit
def callVal (f : Value) (args : Array Value) : Sem Next := do let d ← Deferred.ofValue f args; invoke d.target d.args
theorem callVal_func (f : FuncId) (first caps args : Array Value) : callVal (.func (.func f) first caps) args = callFunc f (first ++ args ++ caps) := rfl
theorem execOp_call_slot (a : Act) (dst : Option Tmp) (t : Tmp) (xs : Array Operand) (ats : Array TypeId) (ty : TypeId) (pos : String) (after : Array Edge) (guard : Option (Nat × Bool)) :
    execOp a.eval { dst, op := .call { callee := .value (.tmp t), args := xs, argTypes := ats }, type := ty, pos, after, guard } = callVal (a.eval (.tmp t)) (xs.map a.eval) := rfl
attribute [local go_sem ↓] execOp_call_slot
attribute [local go_sem] callVal_func
section
variable {F : Nat → Prop} {w : World} {p : Nat} {vc vp : Value} {code : List I3} {ps : List (Prt × Value)}
set_option maxRecDepth 100000 in
set_option maxHeartbeats 4000000 in
theorem do_call0 (B : Bld F w p vc vp code ps) (hpl : ps.length < 99) (n : Nat) (h1 : 1 ≤ n) (h2 : n ≤ 17) (hfit : fitsS (ps.map (·.1)).reverse (asksOf n) = true) (hn13 : n ≠ 13) (hl0 : laysOf n = 0) (hroom : moreOf n = 0 ∨ ps.length < 32)
    (k : Nat) (c1 c2 : Array Value) (hf : fnOf p w.heap.size n = .func (.func k) c1 c2) (hent : ∀ args w, (callFunc k args).run Try.prog w = .ok (.enter k args) w) (R : World → Prop)
    (HD : ∀ W vc', Bld F W p vc' vp (laidS n code) ps → W.heap[w.heap.size]? = some (.cells #[.pointer (some ⟨p, 0, none⟩)] 24 (0, 0)) → Kept F w W →
      Calls Try.prog k (c1 ++ #[.int .i64 (code.length : Int)] ++ c2) W fun e W' => e = .returned (.tuple #[]) ∧ R W' ∧ Kept F W W') :
    Calls Try.prog 13 #[.pointer (some ⟨p, 0, none⟩), .int .i64 n] w fun e w' => e = .returned (.int .i64 0) ∧ R w' ∧ Kept F w w' := by
  have HDD := Lib.hid HD
  have HE := Lib.hid hent
  clear HD hent
  rw [show laidS n code = code by simp [laidS, hl0]] at HDD
  have HR := Lib.hid (rules_any w p)
  obtain ⟨a, c, rfl, g1, g2, g3⟩ := owns_slice B.code
  obtain ⟨a', c', rfl, g1', g2', g3'⟩ := owns_slice B.parts
  have HB := Lib.hid B
  have HWD := Lib.hid (fun A W (R : RulesAt w p A W) => R.word n h1 h2 hf)
  have hks := asks_short n h2
  generalize asksOf n = ks at *
  generalize laysOf n = lay at *
  generalize moreOf n = mor at *
  clear B g3 g3' hf
  generalize hfs : fitsS (ps.map (·.1)).reverse ks = fs at *
  subst hfit
  have hn : ((n : Int) == 13) = false := by simp; omega
  have hly : (lay != 0) = false := by simpa using hl0
  clear hl0
  have hcase : (decide (0 < mor) && decide ((32 : Int) ≤ (ps.length : Int))) = false := by
    rcases hroom with h | h
    · simp [h]
    · simp; omega
  have hent := HE.out
  go_enter Try.func13, Try.ntmps13
  go_wp2_with (first
    | (go_at_call 26; refine HR.out.mono ?_; rintro e w1 ⟨rfl, A, HA⟩
       obtain ⟨aa, ac, HW⟩ := HWD.out A w1 HA
       have hl := HW.look
       have B1 := (HB.out.kept HA.kept (fun _ _ h => h)).alloc (.cells #[.slice aa ks.length ac, .int .u8 lay, .int .i64 mor, .func (.func k) c1 c2] 64)
       have cc0 : (w1.alloc (.cells #[.slice aa ks.length ac, .int .u8 lay, .int .i64 mor, .func (.func k) c1 c2] 64)).cell? ⟨p, 0, none⟩ = some (.slice a code.length c) := by rw [cell_block B1.own]; rfl
       have cc1 : (w1.alloc (.cells #[.slice aa ks.length ac, .int .u8 lay, .int .i64 mor, .func (.func k) c1 c2] 64)).cell? ⟨p, 1, none⟩ = some (.slice a' ps.length c') := by rw [cell_block B1.own]; rfl
       have HK1 := Lib.hid (((HA.kept).alloc (.cells #[.slice aa ks.length ac, .int .u8 lay, .int .i64 mor, .func (.func k) c1 c2] 64)).mono (T := F) (fun _ h => h.elim))
       have HFT := Lib.hid (fits_any B1 hpl ks (.slice aa ks.length ac) hks (owns_kept HW.row ((Kept.refl (fun _ => False) w1).alloc _) (fun _ _ h => h)))
       rw [hfs] at HFT
       have HBX := Lib.hid (show (w1.alloc (.cells #[.slice aa ks.length ac, .int .u8 lay, .int .i64 mor, .func (.func k) c1 c2] 64)).heap[w.heap.size]? = _ from (((Kept.refl (fun _ => False) w1).alloc _).block _ (Array.getElem?_eq_some_iff.1 HW.box).1 (fun h => h)).trans HW.box)
       have HB1 := Lib.hid B1
       clear B1 HA HW)
    | (go_at_call 27; refine HFT.out.mono ?_; rintro e w2 ⟨rfl, rfl⟩
       have HC := Lib.hid (HDD.out _ _ HB1.out HBX.out HK1.out))
    | (refine HC.out.mono ?_; rintro e w3 ⟨rfl, hr, hk⟩
       have HRR := Lib.hid hr
       have HKK := Lib.hid (HK1.out.trans hk)
       clear hr hk))
  all_goals (first | go_ret | skip)
  all_goals exact ⟨rfl, HRR.out, HKK.out⟩
set_option maxRecDepth 100000 in
set_option maxHeartbeats 4000000 in
theorem do_call1 (B : Bld F w p vc vp code ps) (hpl : ps.length < 99) (n : Nat) (h1 : 1 ≤ n) (h2 : n ≤ 17) (hfit : fitsS (ps.map (·.1)).reverse (asksOf n) = true) (hn13 : n ≠ 13) (hF : ∀ r, w.heap.size ≤ r → F r) (hl0 : laysOf n ≠ 0) (hlen : code.length < 499) (hroom : moreOf n = 0 ∨ ps.length < 32)
    (k : Nat) (c1 c2 : Array Value) (hf : fnOf p w.heap.size n = .func (.func k) c1 c2) (hent : ∀ args w, (callFunc k args).run Try.prog w = .ok (.enter k args) w) (R : World → Prop)
    (HD : ∀ W vc', Bld F W p vc' vp (laidS n code) ps → W.heap[w.heap.size]? = some (.cells #[.pointer (some ⟨p, 0, none⟩)] 24 (0, 0)) → Kept F w W →
      Calls Try.prog k (c1 ++ #[.int .i64 (code.length : Int)] ++ c2) W fun e W' => e = .returned (.tuple #[]) ∧ R W' ∧ Kept F W W') :
    Calls Try.prog 13 #[.pointer (some ⟨p, 0, none⟩), .int .i64 n] w fun e w' => e = .returned (.int .i64 0) ∧ R w' ∧ Kept F w w' := by
  have HDD := Lib.hid HD
  have HE := Lib.hid hent
  clear HD hent
  rw [show laidS n code = code ++ [(laysOf n, 0, 0)] by simp [laidS, hl0]] at HDD
  have HF := Lib.hid hF
  clear hF
  have HR := Lib.hid (rules_any w p)
  obtain ⟨a, c, rfl, g1, g2, g3⟩ := owns_slice B.code
  obtain ⟨a', c', rfl, g1', g2', g3'⟩ := owns_slice B.parts
  have HB := Lib.hid B
  have HWD := Lib.hid (fun A W (R : RulesAt w p A W) => R.word n h1 h2 hf)
  have hks := asks_short n h2
  generalize asksOf n = ks at *
  generalize laysOf n = lay at *
  generalize moreOf n = mor at *
  clear B g3 g3' hf
  generalize hfs : fitsS (ps.map (·.1)).reverse ks = fs at *
  subst hfit
  have hn : ((n : Int) == 13) = false := by simp; omega
  have hly : (lay != 0) = true := by simpa using hl0
  clear hl0
  have hcase : (decide (0 < mor) && decide ((32 : Int) ≤ (ps.length : Int))) = false := by
    rcases hroom with h | h
    · simp [h]
    · simp; omega
  have hent := HE.out
  go_enter Try.func13, Try.ntmps13
  go_wp2_with (first
    | (go_at_call 26; refine HR.out.mono ?_; rintro e w1 ⟨rfl, A, HA⟩
       obtain ⟨aa, ac, HW⟩ := HWD.out A w1 HA
       have hl := HW.look
       have hs1 := HA.kept.size
       have B0 := ((HB.out.tight.kept HA.kept (fun _ _ h => h)).mono (G := fun r => F r ∧ r ≠ w.heap.size ∧ r ≠ w1.heap.size) (fun r hr => ⟨hr.1, by have := hr.2; omega, by have := hr.2; omega⟩)).alloc (.cells #[.slice aa ks.length ac, .int .u8 lay, .int .i64 mor, .func (.func k) c1 c2] 64)
       have cc0 : (w1.alloc (.cells #[.slice aa ks.length ac, .int .u8 lay, .int .i64 mor, .func (.func k) c1 c2] 64)).cell? ⟨p, 0, none⟩ = some (.slice a code.length c) := by rw [cell_block B0.own]; rfl
       have cc1 : (w1.alloc (.cells #[.slice aa ks.length ac, .int .u8 lay, .int .i64 mor, .func (.func k) c1 c2] 64)).cell? ⟨p, 1, none⟩ = some (.slice a' ps.length c') := by rw [cell_block B0.own]; rfl
       have ff0 : (w1.alloc (.cells #[.slice aa ks.length ac, .int .u8 lay, .int .i64 mor, .func (.func k) c1 c2] 64)).frozen? ⟨p, 0, none⟩ = false := frozen_block B0.own 0
       have HTB := Lib.hid (show (w1.alloc (.cells #[.slice aa ks.length ac, .int .u8 lay, .int .i64 mor, .func (.func k) c1 c2] 64)).heap[w1.heap.size]? = some (.cells #[.slice aa ks.length ac, .int .u8 lay, .int .i64 mor, .func (.func k) c1 c2] 64 (0, 0)) from (Go.MapKept.heap_alloc w1 _).1)
       have hsz : (w1.alloc (.cells #[.slice aa ks.length ac, .int .u8 lay, .int .i64 mor, .func (.func k) c1 c2] 64)).heap.size = w1.heap.size + 1 := by simp
       have HK1 := Lib.hid (((HA.kept).alloc (.cells #[.slice aa ks.length ac, .int .u8 lay, .int .i64 mor, .func (.func k) c1 c2] 64)).mono (T := F) (fun _ h => h.elim))
       have HFT := Lib.hid (fits_any B0 hpl ks (.slice aa ks.length ac) hks (owns_kept HW.row ((Kept.refl (fun _ => False) w1).alloc _) (fun _ _ h => h)))
       rw [hfs] at HFT
       have HBX := Lib.hid (show (w1.alloc (.cells #[.slice aa ks.length ac, .int .u8 lay, .int .i64 mor, .func (.func k) c1 c2] 64)).heap[w.heap.size]? = _ from (((Kept.refl (fun _ => False) w1).alloc _).block _ (Array.getElem?_eq_some_iff.1 HW.box).1 (fun h => h)).trans HW.box)
       have HB1 := Lib.hid B0
       clear B0 HA HW)
    | (go_at_call 27; refine HFT.out.mono ?_; rintro e w2 ⟨rfl, rfl⟩))
  all_goals (
    have HNE := Lib.hid (show w.heap.size ≠ w1.heap.size + 1 by omega)
    have HS1 := Lib.hid hs1
    have HSZ := Lib.hid hsz
    clear hl cc1 hs1 hsz
    generalize (w1.alloc (.cells #[.slice aa ks.length ac, .int .u8 lay, .int .i64 mor, .func (.func k) c1 c2] 64)) = wa at *
    generalize w1.heap.size = tb at *
    have d1 : wa.cell? ⟨tb, 1, none⟩ = some (.int .u8 lay) := by rw [cell_block HTB.out]; rfl
    have HB2 := Lib.hid (HB1.out.kept (((Kept.refl (fun _ => False) wa).alloc (.cells #[.int .u8 lay, .int .i64 0, .int .i64 0] 31)).drew) (fun _ _ h => h))
    have c1b : (wa.alloc (.cells #[.int .u8 lay, .int .i64 0, .int .i64 0] 31)).cell? ⟨p, 0, none⟩ = some (.slice a code.length c) := by rw [← World.cell?_drew, cell_block HB2.out.own]; rfl
    have HTB2 := Lib.hid (show ((wa.alloc (.cells #[.int .u8 lay, .int .i64 0, .int .i64 0] 31)).drew).heap[tb]? = _ from (((Kept.refl (fun _ => False) wa).alloc (.cells #[.int .u8 lay, .int .i64 0, .int .i64 0] 31)).drew.block _ (by have := HSZ.out; omega) (fun h => h)).trans HTB.out)
    have HBX2 := Lib.hid (show ((wa.alloc (.cells #[.int .u8 lay, .int .i64 0, .int .i64 0] 31)).drew).heap[w.heap.size]? = _ from (((Kept.refl (fun _ => False) wa).alloc (.cells #[.int .u8 lay, .int .i64 0, .int .i64 0] 31)).drew.block _ (by have := HS1.out; have := HSZ.out; omega) (fun h => h)).trans HBX.out)
    obtain ⟨i0, hi0, hz0, hz1, hz2⟩ := info_parts info31
    go_region_law (first
      | (refine step_append_lies _ (by rfl) _ _ _ (by rfl) 0 31 i0 _ 3 24 Try.underlying32 hi0 hz0 hz1 hz2 rfl (by omega) (.slice a code.length c) code.length (codeV code) (by rfl) ((HB1.out.code.alloc _).drew) ⟨wa.heap.size, 0, none⟩ 1 1 [.int .u8 lay, .int .i64 0, .int .i64 0] (by rfl) (by rfl) (World.news_of_block (cs := #[.int .u8 lay, .int .i64 0, .int .i64 0]) (t := 31) (fr := (0, 0)) (heap_alloc_new wa _)) (by simp [Value.oneCell']) (by omega) (by simp only [maxLen]; omega) (by omega) (by omega) (wa.heap.size + 1) (by simp) ?_; intro gg cap w4 hown1 hgrow hat hlt
         have HT := Lib.hid (HB2.out.put_code (lay, 0, 0) hown1 hgrow (fun k hk => by simp [Value.ownBlock] at hk; subst hk; rcases hat with h | h; exact HB2.out.fc _ h; have := HS1.out; have := HSZ.out; exact ⟨HF.out _ (by omega), by omega, by omega⟩))
         have HE3 := Lib.hid (cell_block ((HT.out.2.block tb (by have := HSZ.out; simp; omega) (fun h => h.2.2 rfl)).trans HTB2.out))
         have HBX3 := Lib.hid ((HT.out.2.block w.heap.size (by have := HS1.out; have := HSZ.out; simp; omega) (fun h => h.2.1 rfl)).trans HBX2.out)
         have K1 : Kept (fun r => (Value.slice a code.length c).ownBlock = some r) _ w4 := (Kept.refl _ _).grown hgrow (fun k hk => .inl hk)
         have hp1 := (K1.block p (Array.getElem?_eq_some_iff.1 HB2.out.own).1 (owns_ne HB2.out.code HB2.out.own (by decide))).trans HB2.out.own
         have cx2 : w4.cell? ⟨p, 0, none⟩ = some (.slice a code.length c) := by rw [cell_block hp1]; rfl
         have f2 : w4.frozen? ⟨p, 0, none⟩ = false := frozen_block hp1 0
         clear K1 hp1 hgrow hown1 hat hlt)))
  all_goals (
    have HKW := Lib.hid (((HK1.out.alloc (.cells #[.int .u8 lay, .int .i64 0, .int .i64 0] 31)).drew).trans (HT.out.2.mono (fun r hr => hr.1)))
    have HC := Lib.hid (HDD.out _ _ (HT.out.1.mono (fun r hr => hr.1)) HBX3.out HKW.out)
    have e3 := HE3.out 3
    rw [show (#[Value.slice aa ks.length ac, .int .u8 lay, .int .i64 mor, .func (.func k) c1 c2] : Array Value)[3]? = some (.func (.func k) c1 c2) from rfl] at e3
    go_wp2_with (first
      | (refine HC.out.mono ?_; rintro e w3 ⟨rfl, hr, hk⟩
         have HRR := Lib.hid hr
         have HKK := Lib.hid (HKW.out.trans hk)
         clear hr hk)))
  all_goals (first | go_ret | skip)
  all_goals exact ⟨rfl, HRR.out, HKK.out⟩
end
end Go.Proofs.Ytdpoobkfhmmbjaa
