/- The walks of the words' own functions that open a part. -/
import Derived.Test.YtdpoobkfhmmbjaaActs
namespace Go.Proofs.Ytdpoobkfhmmbjaa
open Go.RowKit
section
variable {F : Nat → Prop} {w : World} {p : Nat} {vc vp : Value} {code : List I3} {ps : List (Prt × Value)}
set_option maxRecDepth 100000 in
theorem clos40 (B : Bld F w p vc vp code ps) (hF : ∀ r, w.heap.size ≤ r → F r) (v : Int) (hv : 0 ≤ v ∧ v < 1000) (bx : Nat) (hbx : w.cell? ⟨bx, 0, none⟩ = some (.pointer (some ⟨p, 0, none⟩))) (h : ps.length < 99) :
    Calls Try.prog 40 #[.int .i64 v, .pointer (some ⟨bx, 0, none⟩)] w fun e w' => e = .returned (.tuple #[]) ∧ (∃ vp', Bld F w' p vc vp' code (ps ++ [(⟨0, v, []⟩, .slice none 0 0)])) ∧ Kept F w w' := by
  have HT := Lib.hid (open_none B hF 0 v h)
  have hw : wrap64 (v + 1) = v + 1 := wrap64_in _ (by omega)
  clear B hF
  go_enter Try.func40, Try.ntmps40
  go_wp2_with (go_at_call 41; refine HT.out.mono ?_; rintro e w1 ⟨rfl, B1, K1⟩
               have HB1 := Lib.hid B1
               have HK1 := Lib.hid K1
               clear B1 K1)
  all_goals (first | go_end0 | skip)
  all_goals exact ⟨rfl, HB1.out, HK1.out⟩
set_option maxRecDepth 100000 in
theorem clos44 (B : Bld F w p vc vp code ps) (hF : ∀ r, w.heap.size ≤ r → F r) (v : Int) (hv : 0 ≤ v ∧ v < 1000) (bx : Nat) (hbx : w.cell? ⟨bx, 0, none⟩ = some (.pointer (some ⟨p, 0, none⟩))) (h : ps.length < 99) :
    Calls Try.prog 44 #[.int .i64 v, .pointer (some ⟨bx, 0, none⟩)] w fun e w' => e = .returned (.tuple #[]) ∧ (∃ vp', Bld F w' p vc vp' code (ps ++ [(⟨1, v, []⟩, .slice none 0 0)])) ∧ Kept F w w' := by
  have HT := Lib.hid (open_none B hF 1 v h)
  have hw : wrap64 (v + 1) = v + 1 := wrap64_in _ (by omega)
  clear B hF
  go_enter Try.func44, Try.ntmps44
  go_wp2_with (go_at_call 41; refine HT.out.mono ?_; rintro e w1 ⟨rfl, B1, K1⟩
               have HB1 := Lib.hid B1
               have HK1 := Lib.hid K1
               clear B1 K1)
  all_goals (first | go_end0 | skip)
  all_goals exact ⟨rfl, HB1.out, HK1.out⟩
set_option maxRecDepth 100000 in
theorem clos48 (B : Bld F w p vc vp code ps) (hF : ∀ r, w.heap.size ≤ r → F r) (v : Int) (hv : 0 ≤ v ∧ v < 1000) (bx : Nat) (hbx : w.cell? ⟨bx, 0, none⟩ = some (.pointer (some ⟨p, 0, none⟩))) (h : ps.length < 99) :
    Calls Try.prog 48 #[.int .i64 v, .pointer (some ⟨bx, 0, none⟩)] w fun e w' => e = .returned (.tuple #[]) ∧ (∃ vp', Bld F w' p vc vp' code (ps ++ [(⟨2, (v + 1), []⟩, .slice none 0 0)])) ∧ Kept F w w' := by
  have HT := Lib.hid (open_none B hF 2 (v + 1) h)
  have hw : wrap64 (v + 1) = v + 1 := wrap64_in _ (by omega)
  clear B hF
  go_enter Try.func48, Try.ntmps48
  go_wp2_with (go_at_call 41; refine HT.out.mono ?_; rintro e w1 ⟨rfl, B1, K1⟩
               have HB1 := Lib.hid B1
               have HK1 := Lib.hid K1
               clear B1 K1)
  all_goals (first | go_end0 | skip)
  all_goals exact ⟨rfl, HB1.out, HK1.out⟩
set_option maxRecDepth 100000 in
theorem clos52 (B : Bld F w p vc vp code ps) (hF : ∀ r, w.heap.size ≤ r → F r) (v : Int) (hv : 0 ≤ v ∧ v < 1000) (bx : Nat) (hbx : w.cell? ⟨bx, 0, none⟩ = some (.pointer (some ⟨p, 0, none⟩))) (h : ps.length < 99) :
    Calls Try.prog 52 #[.int .i64 v, .pointer (some ⟨bx, 0, none⟩)] w fun e w' => e = .returned (.tuple #[]) ∧ (∃ vp', Bld F w' p vc vp' code (ps ++ [(⟨3, v, []⟩, .slice none 0 0)])) ∧ Kept F w w' := by
  have HT := Lib.hid (open_none B hF 3 v h)
  have hw : wrap64 (v + 1) = v + 1 := wrap64_in _ (by omega)
  clear B hF
  go_enter Try.func52, Try.ntmps52
  go_wp2_with (go_at_call 41; refine HT.out.mono ?_; rintro e w1 ⟨rfl, B1, K1⟩
               have HB1 := Lib.hid B1
               have HK1 := Lib.hid K1
               clear B1 K1)
  all_goals (first | go_end0 | skip)
  all_goals exact ⟨rfl, HB1.out, HK1.out⟩
set_option maxRecDepth 100000 in
theorem clos53 (B : Bld F w p vc vp code ps) (hF : ∀ r, w.heap.size ≤ r → F r) (v : Int) (hv : 0 ≤ v ∧ v < 1000) (bx : Nat) (hbx : w.cell? ⟨bx, 0, none⟩ = some (.pointer (some ⟨p, 0, none⟩))) (h : ps.length < 99) :
    Calls Try.prog 53 #[.int .i64 v, .pointer (some ⟨bx, 0, none⟩)] w fun e w' => e = .returned (.tuple #[]) ∧ (∃ vp', Bld F w' p vc vp' code (ps ++ [(⟨4, v, []⟩, .slice none 0 0)])) ∧ Kept F w w' := by
  have HT := Lib.hid (open_none B hF 4 v h)
  have hw : wrap64 (v + 1) = v + 1 := wrap64_in _ (by omega)
  clear B hF
  go_enter Try.func53, Try.ntmps53
  go_wp2_with (go_at_call 41; refine HT.out.mono ?_; rintro e w1 ⟨rfl, B1, K1⟩
               have HB1 := Lib.hid B1
               have HK1 := Lib.hid K1
               clear B1 K1)
  all_goals (first | go_end0 | skip)
  all_goals exact ⟨rfl, HB1.out, HK1.out⟩
set_option maxRecDepth 100000 in
theorem clos49 (B : Bld F w p vc vp code ps) (hF : ∀ r, w.heap.size ≤ r → F r) (v : Int) (hv : 0 ≤ v ∧ v < 1000) (bx : Nat) (hbx : w.cell? ⟨bx, 0, none⟩ = some (.pointer (some ⟨p, 0, none⟩))) (h : ps.length < 99) :
    Calls Try.prog 49 #[.int .i64 v, .pointer (some ⟨bx, 0, none⟩)] w fun e w' => e = .returned (.tuple #[]) ∧ (∃ vp' gv, Bld F w' p vc vp' code (ps ++ [(⟨2, v + 1, [v]⟩, gv)])) ∧ Kept F w w' := by
  have HT := Lib.hid (open_room (B.alloc (.cells #[.int .i64 v] 3)) (fun r hr => hF r (by simp at hr; omega)) 2 (v + 1) [v] (.slice (some ⟨w.heap.size, 0, none⟩) 1 1) h (owns_new1 w v)
    (fun r hr => .inr (fun e => Nat.lt_irrefl _ (owns_lt (B.gaps r hr) e))) (fun k hk => by simp [Value.ownBlock] at hk; subst hk; exact hF _ (Nat.le_refl _)))
  have HKA := Lib.hid ((Kept.refl F w).alloc (.cells #[.int .i64 v] 3))
  have hw : wrap64 (v + 1) = v + 1 := wrap64_in _ (by omega)
  clear B hF
  go_enter Try.func49, Try.ntmps49
  go_wp2_with (go_at_call 41; refine HT.out.mono ?_; rintro e w1 ⟨rfl, ⟨vp', B1⟩, K1⟩
               have HB1 := Lib.hid B1
               have HK1 := Lib.hid (HKA.out.trans K1)
               clear B1 K1)
  all_goals (first | go_end0 | skip)
  all_goals exact ⟨rfl, ⟨_, _, HB1.out⟩, HK1.out⟩
end
end Go.Proofs.Ytdpoobkfhmmbjaa
