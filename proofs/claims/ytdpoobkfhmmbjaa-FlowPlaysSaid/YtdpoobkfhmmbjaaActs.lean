/- The walks of flow.Builder's then, branch, while, back, repeat, again, endCase, and of the words' own functions. -/
import Derived.Test.YtdpoobkfhmmbjaaClose
namespace Go.Proofs.Ytdpoobkfhmmbjaa
open Go.RowKit
theorem owns_new1 (w : World) (n : Int) : (w.alloc (.cells #[.int .i64 n] 3)).ownsRow 0 3 1 (.slice (some ⟨w.heap.size, 0, none⟩) [n].length 1) [n].length ([n].map intV) :=
  ⟨rfl, .inr ⟨w.heap.size, 1, #[.int .i64 n], rfl, Nat.zero_le _, (MapKept.heap_alloc w _).1, Nat.le_refl _, by simp [maxLen], rfl, rfl⟩⟩
theorem field85_1 (a b c : Value) (w : World) : (Instr.field 85 (.agg #[a, b, c]) 1).run Try.prog w = .ok b w := by
  simp [Instr.field, run_underlying Try.underlying85, Result.andThen, asAgg, part]
theorem field85_2 (a b c : Value) (w : World) : (Instr.field 85 (.agg #[a, b, c]) 2).run Try.prog w = .ok c w := by
  simp [Instr.field, run_underlying Try.underlying85, Result.andThen, asAgg, part]
section
variable {F : Nat → Prop} {w : World} {p : Nat} {vc vp : Value} {code : List I3} {ps : List (Prt × Value)}
set_option maxRecDepth 100000 in
theorem then_any {q : Prt × Value} (B : Bld F w p vc vp code (ps ++ [q])) (hn : code.length < 600) (hat : 0 ≤ q.1.at_ ∧ q.1.at_ < code.length) (v : Int) :
    Calls Try.prog 43 #[.pointer (some ⟨p, 0, none⟩), .int .i64 v] w fun e w' => e = .returned (.tuple #[]) ∧ (∃ vp', Bld F w' p vc vp' (setA code q.1.at_.toNat code.length) ps) ∧ Kept F w w' := by
  have HT := Lib.hid (take_any B)
  clear B
  have hf1 := field85_1
  go_enter Try.func43, Try.ntmps43
  go_wp2_with (first
    | (go_at_call 64; refine HT.out.mono ?_; rintro e w1 ⟨rfl, ⟨vp', B1⟩, K1, Q1⟩
       have HC := Lib.hid (close_any (B1.alloc (.cells #[.int .i64 q.1.at_] 3)) [q.1.at_] (.slice (some ⟨w1.heap.size, 0, none⟩) 1 1) hn (owns_new1 w1 _) (fun g hg => by simp at hg; subst hg; exact hat))
       have HK1 := Lib.hid (K1.alloc (.cells #[.int .i64 q.1.at_] 3))
       clear B1 K1 Q1)
    | (go_at_call 63; refine HC.out.mono ?_; rintro e w2 ⟨rfl, B2, K2⟩
       have HB2 := Lib.hid B2
       have HK2 := Lib.hid (HK1.out.trans K2)
       clear B2 K2))
  all_goals (first | go_end0 | skip)
  all_goals exact ⟨rfl, ⟨_, HB2.out⟩, HK2.out⟩
theorem owns_nil3 (w : World) : w.ownsRow 0 3 1 (.slice none 0 0) ([] : List Int).length (([] : List Int).map intV) := World.ownsRow_nil _ _ _ _
theorem grown_hF {w' : World} (hF : ∀ r, w.heap.size ≤ r → F r) (K : Kept F w w') : ∀ r, w'.heap.size ≤ r → F r := fun r hr => hF r (Nat.le_trans K.size hr)
/-- open with no gaps -/
theorem open_none (B : Bld F w p vc vp code ps) (hF : ∀ r, w.heap.size ≤ r → F r) (kind at_ : Int) (h : ps.length < 99) :
    Calls Try.prog 41 #[.pointer (some ⟨p, 0, none⟩), .int .i64 kind, .int .i64 at_, .slice none 0 0] w fun e w' => e = .returned (.tuple #[]) ∧ (∃ vp', Bld F w' p vc vp' code (ps ++ [(⟨kind, at_, []⟩, .slice none 0 0)])) ∧ Kept F w w' :=
  open_room B hF kind at_ [] (.slice none 0 0) h (owns_nil3 w) (fun r _ => by
    cases hv : r.2.ownBlock with
    | none => exact .inl rfl
    | some k => exact .inr (by simp [Value.ownBlock])) (fun k hk => by simp [Value.ownBlock] at hk)
set_option maxRecDepth 100000 in
theorem branch_any {q : Prt × Value} (B : Bld F w p vc vp code (ps ++ [q])) (hF : ∀ r, w.heap.size ≤ r → F r) (hn : code.length < 600) (hp : ps.length < 99) (hat : 0 ≤ q.1.at_ ∧ q.1.at_ < code.length) (v : Int) :
    Calls Try.prog 42 #[.pointer (some ⟨p, 0, none⟩), .int .i64 v] w fun e w' => e = .returned (.tuple #[]) ∧ (∃ vp', Bld F w' p vc vp' (setA code q.1.at_.toNat code.length) (ps ++ [(⟨0, v, []⟩, .slice none 0 0)])) ∧ Kept F w w' := by
  have HT := Lib.hid (then_any B hn hat v)
  have HF := Lib.hid hF
  clear B hF
  go_enter Try.func42, Try.ntmps42
  go_wp2_with (first
    | (go_at_call 43; refine HT.out.mono ?_; rintro e w1 ⟨rfl, ⟨vp', B1⟩, K1⟩
       have HC := Lib.hid (open_none B1 (grown_hF HF.out K1) 0 v hp)
       have HK1 := Lib.hid K1
       clear B1 K1)
    | (go_at_call 41; refine HC.out.mono ?_; rintro e w2 ⟨rfl, B2, K2⟩
       have HB2 := Lib.hid B2
       have HK2 := Lib.hid (HK1.out.trans K2)
       clear B2 K2))
  all_goals (first | go_end0 | skip)
  all_goals exact ⟨rfl, HB2.out, HK2.out⟩
set_option maxRecDepth 100000 in
theorem endCase_any {q : Prt × Value} (B : Bld F w p vc vp code (ps ++ [q])) (hn : code.length < 600) (hat : ∀ g ∈ q.1.gaps, 0 ≤ g ∧ g < code.length) (v : Int) :
    Calls Try.prog 55 #[.pointer (some ⟨p, 0, none⟩), .int .i64 v] w fun e w' => e = .returned (.tuple #[]) ∧ (∃ vp', Bld F w' p vc vp' (closeG code q.1.gaps) ps) ∧ Kept F w w' := by
  have HT := Lib.hid (take_any B)
  clear B
  have hf1 := field85_2
  go_enter Try.func55, Try.ntmps55
  go_wp2_with (first
    | (go_at_call 64; refine HT.out.mono ?_; rintro e w1 ⟨rfl, ⟨vp', B1⟩, K1, Q1⟩
       have HC := Lib.hid (close_any B1 q.1.gaps q.2 hn Q1 hat)
       have HK1 := Lib.hid K1
       clear B1 K1 Q1)
    | (go_at_call 63; refine HC.out.mono ?_; rintro e w2 ⟨rfl, B2, K2⟩
       have HB2 := Lib.hid B2
       have HK2 := Lib.hid (HK1.out.trans K2)
       clear B2 K2))
  all_goals (first | go_end0 | skip)
  all_goals exact ⟨rfl, ⟨_, HB2.out⟩, HK2.out⟩
end
end Go.Proofs.Ytdpoobkfhmmbjaa
