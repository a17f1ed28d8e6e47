/- The walk of flow.Builder's Do at the word 'leave'. -/
import Derived.Test.YtdpoobkfhmmbjaaLeave
import Derived.Test.YtdpoobkfhmmbjaaDoOk
namespace Go.Proofs.Ytdpoobkfhmmbjaa
open Go.RowKit
theorem fits_nil (st : List Prt) : fitsS st [] = true := by cases st <;> simp [fitsS]
section
variable {F : Nat → Prop} {w : World} {p : Nat} {vc vp : Value} {code : List I3} {ps : List (Prt × Value)}
set_option maxRecDepth 100000 in
set_option maxHeartbeats 4000000 in
theorem do13_ctrl (B : Bld F w p vc vp code ps) (hpl : ps.length < 99) (rr : Int) (hrr : rr < 0)
    (HI : ∀ (F' : Nat → Prop) W, Bld F' W p vc vp code ps → Calls Try.prog 28 #[.pointer (some ⟨p, 0, none⟩)] W fun e W' => e = .returned (.int .i64 rr) ∧ Below W.heap.size W W') :
    Calls Try.prog 13 #[.pointer (some ⟨p, 0, none⟩), .int .i64 13] w fun e w' => e = .returned (.int .i64 (-22)) ∧ (∃ vc' vp', Bld F w' p vc' vp' code ps) ∧ Kept F w w' := by
  have HR := Lib.hid (rules_any w p)
  obtain ⟨a, c, rfl, g1, g2, g3⟩ := owns_slice B.code
  obtain ⟨a', c', rfl, g1', g2', g3'⟩ := owns_slice B.parts
  have HB := Lib.hid B
  have HWD := Lib.hid (show ∀ A W, RulesAt w p A W → ∃ aa ac, Word w p 13 W [] aa ac 9 0 51 #[.pointer (some ⟨p, 0, none⟩)] #[] from fun A W R => RulesAt.word R 13 (by decide) (by decide) rfl)
  have HII := Lib.hid HI
  clear B g3 g3' HI
  go_enter Try.func13, Try.ntmps13
  go_wp2_with fail
  refine HR.out.mono ?_
  rintro e w1 ⟨rfl, A, HA⟩
  obtain ⟨aa, ac, HW⟩ := HWD.out A w1 HA
  have hl : (Instr.lookup 66 (.map (some (w.heap.size + 1))) (.int .i64 13) true).run Try.prog w1 = .ok (.tuple #[.agg #[.slice aa 0 ac, .int .u8 9, .int .i64 0, .func (.func 51) #[.pointer (some ⟨p, 0, none⟩)] #[]], .bool true]) w1 := HW.look
  have hs1 := HA.kept.size
  have B0 := ((HB.out.tight.kept HA.kept (fun _ _ h => h)).mono (G := fun r => F r ∧ r ≠ w1.heap.size) (fun r hr => ⟨hr.1, by have := hr.2; omega⟩)).alloc (.cells #[.slice aa 0 ac, .int .u8 9, .int .i64 0, .func (.func 51) #[.pointer (some ⟨p, 0, none⟩)] #[]] 64)
  have HTB := Lib.hid (show (w1.alloc (.cells #[.slice aa 0 ac, .int .u8 9, .int .i64 0, .func (.func 51) #[.pointer (some ⟨p, 0, none⟩)] #[]] 64)).heap[w1.heap.size]? = some (.cells #[.slice aa 0 ac, .int .u8 9, .int .i64 0, .func (.func 51) #[.pointer (some ⟨p, 0, none⟩)] #[]] 64 (0, 0)) from (Go.MapKept.heap_alloc w1 _).1)
  have hsz : w1.heap.size < (w1.alloc (.cells #[.slice aa 0 ac, .int .u8 9, .int .i64 0, .func (.func 51) #[.pointer (some ⟨p, 0, none⟩)] #[]] 64)).heap.size := by simp
  have HK1 := Lib.hid (((HA.kept).alloc (.cells #[.slice aa 0 ac, .int .u8 9, .int .i64 0, .func (.func 51) #[.pointer (some ⟨p, 0, none⟩)] #[]] 64)).mono (T := F) (fun _ h => h.elim))
  have HFT := fits_any B0 hpl [] (.slice aa 0 ac) (by decide) (owns_kept HW.row ((Kept.refl (fun _ => False) w1).alloc _) (fun _ _ h => h))
  rw [fits_nil] at HFT
  replace HFT := Lib.hid HFT
  have HIN := Lib.hid (HII.out _ _ B0)
  have cc0 : (w1.alloc (.cells #[.slice aa 0 ac, .int .u8 9, .int .i64 0, .func (.func 51) #[.pointer (some ⟨p, 0, none⟩)] #[]] 64)).cell? ⟨p, 0, none⟩ = some (.slice a code.length c) := by rw [cell_block B0.own]; rfl
  have HB1 := Lib.hid B0
  have HSZ := Lib.hid hsz
  have HS1 := Lib.hid hs1
  clear B0 HA HW hsz hs1
  go_wp2_with fail
  refine HFT.out.mono ?_
  rintro e w2 ⟨rfl, rfl⟩
  go_wp2_with fail
  refine HIN.out.mono ?_
  rintro e w3 ⟨rfl, hbw⟩
  have HK3 := Lib.hid (HK1.out.trans (Kept.ofBel (S := F) hbw))
  have HB3 := Lib.hid (HB1.out.kept (Kept.ofBel (S := fun _ => False) hbw) (fun _ _ h => h))
  have HTB3 := Lib.hid (((Kept.ofBel (S := fun _ => False) hbw).block _ HSZ.out (fun h => h)).trans HTB.out)
  have cd0 : w3.cell? ⟨p, 0, none⟩ = some (.slice a code.length c) := by rw [cell_block HB3.out.own]; rfl
  have cd1 : w3.cell? ⟨p, 1, none⟩ = some (.slice a' ps.length c') := by rw [cell_block HB3.out.own]; rfl
  have td1 : w3.cell? ⟨w1.heap.size, 1, none⟩ = some (.int .u8 9) := by rw [cell_block HTB3.out]; rfl
  have td2 : w3.cell? ⟨w1.heap.size, 2, none⟩ = some (.int .i64 0) := by rw [cell_block HTB3.out]; rfl
  have HSZ3 := Lib.hid (Nat.lt_of_lt_of_le HSZ.out hbw.size)
  clear hbw
  go_wp2_with fail
  all_goals (first | go_ret | skip)
  all_goals exact ⟨rfl, ⟨_, _, HB3.out.mono (fun r hr => hr.1)⟩, HK3.out⟩
set_option maxRecDepth 100000 in
set_option maxHeartbeats 4000000 in
theorem do13_room (B : Bld F w p vc vp code ps) (hpl : ps.length < 99) (rr : Int) (hrr : 0 ≤ rr) (hlen : 499 ≤ code.length)
    (HI : ∀ (F' : Nat → Prop) W, Bld F' W p vc vp code ps → Calls Try.prog 28 #[.pointer (some ⟨p, 0, none⟩)] W fun e W' => e = .returned (.int .i64 rr) ∧ Below W.heap.size W W') :
    Calls Try.prog 13 #[.pointer (some ⟨p, 0, none⟩), .int .i64 13] w fun e w' => e = .returned (.int .i64 (-8)) ∧ (∃ vc' vp', Bld F w' p vc' vp' code ps) ∧ Kept F w w' := by
  have HR := Lib.hid (rules_any w p)
  obtain ⟨a, c, rfl, g1, g2, g3⟩ := owns_slice B.code
  obtain ⟨a', c', rfl, g1', g2', g3'⟩ := owns_slice B.parts
  have HB := Lib.hid B
  have HWD := Lib.hid (show ∀ A W, RulesAt w p A W → ∃ aa ac, Word w p 13 W [] aa ac 9 0 51 #[.pointer (some ⟨p, 0, none⟩)] #[] from fun A W R => RulesAt.word R 13 (by decide) (by decide) rfl)
  have HII := Lib.hid HI
  clear B g3 g3' HI
  have hrr2 : ¬ rr < 0 := by omega
  go_enter Try.func13, Try.ntmps13
  go_wp2_with fail
  refine HR.out.mono ?_
  rintro e w1 ⟨rfl, A, HA⟩
  obtain ⟨aa, ac, HW⟩ := HWD.out A w1 HA
  have hl : (Instr.lookup 66 (.map (some (w.heap.size + 1))) (.int .i64 13) true).run Try.prog w1 = .ok (.tuple #[.agg #[.slice aa 0 ac, .int .u8 9, .int .i64 0, .func (.func 51) #[.pointer (some ⟨p, 0, none⟩)] #[]], .bool true]) w1 := HW.look
  have hs1 := HA.kept.size
  have B0 := ((HB.out.tight.kept HA.kept (fun _ _ h => h)).mono (G := fun r => F r ∧ r ≠ w1.heap.size) (fun r hr => ⟨hr.1, by have := hr.2; omega⟩)).alloc (.cells #[.slice aa 0 ac, .int .u8 9, .int .i64 0, .func (.func 51) #[.pointer (some ⟨p, 0, none⟩)] #[]] 64)
  have HTB := Lib.hid (show (w1.alloc (.cells #[.slice aa 0 ac, .int .u8 9, .int .i64 0, .func (.func 51) #[.pointer (some ⟨p, 0, none⟩)] #[]] 64)).heap[w1.heap.size]? = some (.cells #[.slice aa 0 ac, .int .u8 9, .int .i64 0, .func (.func 51) #[.pointer (some ⟨p, 0, none⟩)] #[]] 64 (0, 0)) from (Go.MapKept.heap_alloc w1 _).1)
  have hsz : w1.heap.size < (w1.alloc (.cells #[.slice aa 0 ac, .int .u8 9, .int .i64 0, .func (.func 51) #[.pointer (some ⟨p, 0, none⟩)] #[]] 64)).heap.size := by simp
  have HK1 := Lib.hid (((HA.kept).alloc (.cells #[.slice aa 0 ac, .int .u8 9, .int .i64 0, .func (.func 51) #[.pointer (some ⟨p, 0, none⟩)] #[]] 64)).mono (T := F) (fun _ h => h.elim))
  have HFT := fits_any B0 hpl [] (.slice aa 0 ac) (by decide) (owns_kept HW.row ((Kept.refl (fun _ => False) w1).alloc _) (fun _ _ h => h))
  rw [fits_nil] at HFT
  replace HFT := Lib.hid HFT
  have HIN := Lib.hid (HII.out _ _ B0)
  have cc0 : (w1.alloc (.cells #[.slice aa 0 ac, .int .u8 9, .int .i64 0, .func (.func 51) #[.pointer (some ⟨p, 0, none⟩)] #[]] 64)).cell? ⟨p, 0, none⟩ = some (.slice a code.length c) := by rw [cell_block B0.own]; rfl
  have HB1 := Lib.hid B0
  have HSZ := Lib.hid hsz
  have HS1 := Lib.hid hs1
  clear B0 HA HW hsz hs1
  go_wp2_with fail
  refine HFT.out.mono ?_
  rintro e w2 ⟨rfl, rfl⟩
  go_wp2_with fail
  refine HIN.out.mono ?_
  rintro e w3 ⟨rfl, hbw⟩
  have HK3 := Lib.hid (HK1.out.trans (Kept.ofBel (S := F) hbw))
  have HB3 := Lib.hid (HB1.out.kept (Kept.ofBel (S := fun _ => False) hbw) (fun _ _ h => h))
  have HTB3 := Lib.hid (((Kept.ofBel (S := fun _ => False) hbw).block _ HSZ.out (fun h => h)).trans HTB.out)
  have cd0 : w3.cell? ⟨p, 0, none⟩ = some (.slice a code.length c) := by rw [cell_block HB3.out.own]; rfl
  have cd1 : w3.cell? ⟨p, 1, none⟩ = some (.slice a' ps.length c') := by rw [cell_block HB3.out.own]; rfl
  have td1 : w3.cell? ⟨w1.heap.size, 1, none⟩ = some (.int .u8 9) := by rw [cell_block HTB3.out]; rfl
  have td2 : w3.cell? ⟨w1.heap.size, 2, none⟩ = some (.int .i64 0) := by rw [cell_block HTB3.out]; rfl
  have HSZ3 := Lib.hid (Nat.lt_of_lt_of_le HSZ.out hbw.size)
  clear hbw
  go_wp2_with fail
  all_goals (first | go_ret | skip)
  all_goals exact ⟨rfl, ⟨_, _, HB3.out.mono (fun r hr => hr.1)⟩, HK3.out⟩
set_option maxRecDepth 100000 in
set_option maxHeartbeats 4000000 in
theorem do13_call (B : Bld F w p vc vp code ps) (hpl : ps.length < 99) (rr : Int) (hrr : 0 ≤ rr) (hF : ∀ r, w.heap.size ≤ r → F r) (hlen : code.length < 499)
    (HI : ∀ (F' : Nat → Prop) W, Bld F' W p vc vp code ps → Calls Try.prog 28 #[.pointer (some ⟨p, 0, none⟩)] W fun e W' => e = .returned (.int .i64 rr) ∧ Below W.heap.size W W') (R : World → Prop)
    (HD : ∀ W vc', Bld F W p vc' vp (code ++ [(9, 0, 0)]) ps → Kept F w W → Calls Try.prog 51 #[.pointer (some ⟨p, 0, none⟩), .int .i64 (code.length : Int)] W fun e W' => e = .returned (.tuple #[]) ∧ R W' ∧ Kept F W W') :
    Calls Try.prog 13 #[.pointer (some ⟨p, 0, none⟩), .int .i64 13] w fun e w' => e = .returned (.int .i64 0) ∧ R w' ∧ Kept F w w' := by
  have HDD := Lib.hid HD
  have HF := Lib.hid hF
  clear HD hF
  have HR := Lib.hid (rules_any w p)
  obtain ⟨a, c, rfl, g1, g2, g3⟩ := owns_slice B.code
  obtain ⟨a', c', rfl, g1', g2', g3'⟩ := owns_slice B.parts
  have HB := Lib.hid B
  have HWD := Lib.hid (show ∀ A W, RulesAt w p A W → ∃ aa ac, Word w p 13 W [] aa ac 9 0 51 #[.pointer (some ⟨p, 0, none⟩)] #[] from fun A W R => RulesAt.word R 13 (by decide) (by decide) rfl)
  have HII := Lib.hid HI
  clear B g3 g3' HI
  have hrr2 : ¬ rr < 0 := by omega
  go_enter Try.func13, Try.ntmps13
  go_wp2_with fail
  refine HR.out.mono ?_
  rintro e w1 ⟨rfl, A, HA⟩
  obtain ⟨aa, ac, HW⟩ := HWD.out A w1 HA
  have hl : (Instr.lookup 66 (.map (some (w.heap.size + 1))) (.int .i64 13) true).run Try.prog w1 = .ok (.tuple #[.agg #[.slice aa 0 ac, .int .u8 9, .int .i64 0, .func (.func 51) #[.pointer (some ⟨p, 0, none⟩)] #[]], .bool true]) w1 := HW.look
  have hs1 := HA.kept.size
  have B0 := ((HB.out.tight.kept HA.kept (fun _ _ h => h)).mono (G := fun r => F r ∧ r ≠ w1.heap.size) (fun r hr => ⟨hr.1, by have := hr.2; omega⟩)).alloc (.cells #[.slice aa 0 ac, .int .u8 9, .int .i64 0, .func (.func 51) #[.pointer (some ⟨p, 0, none⟩)] #[]] 64)
  have HTB := Lib.hid (show (w1.alloc (.cells #[.slice aa 0 ac, .int .u8 9, .int .i64 0, .func (.func 51) #[.pointer (some ⟨p, 0, none⟩)] #[]] 64)).heap[w1.heap.size]? = some (.cells #[.slice aa 0 ac, .int .u8 9, .int .i64 0, .func (.func 51) #[.pointer (some ⟨p, 0, none⟩)] #[]] 64 (0, 0)) from (Go.MapKept.heap_alloc w1 _).1)
  have hsz : w1.heap.size < (w1.alloc (.cells #[.slice aa 0 ac, .int .u8 9, .int .i64 0, .func (.func 51) #[.pointer (some ⟨p, 0, none⟩)] #[]] 64)).heap.size := by simp
  have HK1 := Lib.hid (((HA.kept).alloc (.cells #[.slice aa 0 ac, .int .u8 9, .int .i64 0, .func (.func 51) #[.pointer (some ⟨p, 0, none⟩)] #[]] 64)).mono (T := F) (fun _ h => h.elim))
  have HFT := fits_any B0 hpl [] (.slice aa 0 ac) (by decide) (owns_kept HW.row ((Kept.refl (fun _ => False) w1).alloc _) (fun _ _ h => h))
  rw [fits_nil] at HFT
  replace HFT := Lib.hid HFT
  have HIN := Lib.hid (HII.out _ _ B0)
  have cc0 : (w1.alloc (.cells #[.slice aa 0 ac, .int .u8 9, .int .i64 0, .func (.func 51) #[.pointer (some ⟨p, 0, none⟩)] #[]] 64)).cell? ⟨p, 0, none⟩ = some (.slice a code.length c) := by rw [cell_block B0.own]; rfl
  have HB1 := Lib.hid B0
  have HSZ := Lib.hid hsz
  have HS1 := Lib.hid hs1
  clear B0 HA HW hsz hs1
  go_wp2_with fail
  refine HFT.out.mono ?_
  rintro e w2 ⟨rfl, rfl⟩
  go_wp2_with fail
  refine HIN.out.mono ?_
  rintro e w3 ⟨rfl, hbw⟩
  have HK3 := Lib.hid (HK1.out.trans (Kept.ofBel (S := F) hbw))
  have HB3 := Lib.hid (HB1.out.kept (Kept.ofBel (S := fun _ => False) hbw) (fun _ _ h => h))
  have HTB3 := Lib.hid (((Kept.ofBel (S := fun _ => False) hbw).block _ HSZ.out (fun h => h)).trans HTB.out)
  have cd0 : w3.cell? ⟨p, 0, none⟩ = some (.slice a code.length c) := by rw [cell_block HB3.out.own]; rfl
  have cd1 : w3.cell? ⟨p, 1, none⟩ = some (.slice a' ps.length c') := by rw [cell_block HB3.out.own]; rfl
  have td1 : w3.cell? ⟨w1.heap.size, 1, none⟩ = some (.int .u8 9) := by rw [cell_block HTB3.out]; rfl
  have td2 : w3.cell? ⟨w1.heap.size, 2, none⟩ = some (.int .i64 0) := by rw [cell_block HTB3.out]; rfl
  have HSZ3 := Lib.hid (Nat.lt_of_lt_of_le HSZ.out hbw.size)
  clear hbw
  go_wp2_with fail
  clear hl cc0 cd1 td1 td2
  have HNL := Lib.hid (show w.heap.size ≤ w1.heap.size from HS1.out)
  clear HFT HIN HTB HK1 HB1 HSZ
  generalize w1.heap.size = tb at *
  have d1 : w3.cell? ⟨tb, 1, none⟩ = some (.int .u8 9) := by rw [cell_block HTB3.out]; rfl
  have ff0 : w3.frozen? ⟨p, 0, none⟩ = false := frozen_block HB3.out.own 0
  have HB2 := Lib.hid (HB3.out.kept (((Kept.refl (fun _ => False) w3).alloc (.cells #[.int .u8 9, .int .i64 0, .int .i64 0] 31)).drew) (fun _ _ h => h))
  have c1b : (w3.alloc (.cells #[.int .u8 9, .int .i64 0, .int .i64 0] 31)).cell? ⟨p, 0, none⟩ = some (.slice a code.length c) := by rw [← World.cell?_drew, cell_block HB2.out.own]; rfl
  have HTB2 := Lib.hid (show ((w3.alloc (.cells #[.int .u8 9, .int .i64 0, .int .i64 0] 31)).drew).heap[tb]? = _ from (((Kept.refl (fun _ => False) w3).alloc (.cells #[.int .u8 9, .int .i64 0, .int .i64 0] 31)).drew.block _ HSZ3.out (fun h => h)).trans HTB3.out)
  obtain ⟨i0, hi0, hz0, hz1, hz2⟩ := info_parts info31
  go_region_law (first
    | (refine step_append_lies _ (by rfl) _ _ _ (by rfl) 0 31 i0 _ 3 24 Try.underlying32 hi0 hz0 hz1 hz2 rfl (by omega) (.slice a code.length c) code.length (codeV code) (by rfl) ((HB3.out.code.alloc _).drew) ⟨w3.heap.size, 0, none⟩ 1 1 [.int .u8 9, .int .i64 0, .int .i64 0] (by rfl) (by rfl) (World.news_of_block (cs := #[.int .u8 9, .int .i64 0, .int .i64 0]) (t := 31) (fr := (0, 0)) (heap_alloc_new w3 _)) (by simp [Value.oneCell']) (by omega) (by simp only [maxLen]; omega) (by omega) (by omega) (w3.heap.size + 1) (by simp) ?_; intro gg cap w4 hown1 hgrow hat hlt
       have HT := Lib.hid (HB2.out.put_code (9, 0, 0) hown1 hgrow (fun k hk => by simp [Value.ownBlock] at hk; subst hk; rcases hat with h | h; exact HB2.out.fc _ h; have := HNL.out; have := HSZ3.out; exact ⟨HF.out _ (by omega), by omega⟩))
       have HE3 := Lib.hid (cell_block ((HT.out.2.block tb (by have := HSZ3.out; simp; omega) (fun h => h.2 rfl)).trans HTB2.out))
       have K1 : Kept (fun r => (Value.slice a code.length c).ownBlock = some r) _ w4 := (Kept.refl _ _).grown hgrow (fun k hk => .inl hk)
       have hp1 := (K1.block p (Array.getElem?_eq_some_iff.1 HB2.out.own).1 (owns_ne HB2.out.code HB2.out.own (by decide))).trans HB2.out.own
       have cx2 : w4.cell? ⟨p, 0, none⟩ = some (.slice a code.length c) := by rw [cell_block hp1]; rfl
       have f2 : w4.frozen? ⟨p, 0, none⟩ = false := frozen_block hp1 0
       clear K1 hp1 hgrow hown1 hat hlt))
  all_goals (
    have HKW := Lib.hid (((HK3.out.alloc (.cells #[.int .u8 9, .int .i64 0, .int .i64 0] 31)).drew).trans (HT.out.2.mono (fun r hr => hr.1)))
    have HC := Lib.hid (HDD.out _ _ (HT.out.1.mono (fun r hr => hr.1)) HKW.out)
    have e3 := HE3.out 3
    rw [show (#[.slice aa 0 ac, .int .u8 9, .int .i64 0, .func (.func 51) #[.pointer (some ⟨p, 0, none⟩)] #[]] : Array Value)[3]? = some (.func (.func 51) #[.pointer (some ⟨p, 0, none⟩)] #[]) from rfl] at e3
    go_wp2_with (first
      | (go_at_call 51; refine HC.out.mono ?_; rintro e w5 ⟨rfl, hr, hk⟩
         have HRR := Lib.hid hr
         have HKK := Lib.hid (HKW.out.trans hk)
         clear hr hk)))
  all_goals (first | go_ret | skip)
  all_goals exact ⟨rfl, HRR.out, HKK.out⟩
end
end Go.Proofs.Ytdpoobkfhmmbjaa

