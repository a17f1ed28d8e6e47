/- Walks over cell.Two, cell.One and what they call: each returns what the plain functions below say, and changes nothing that was there. No condition but that a divisor is not 0 where one divides. -/
import Derived.Test.YtbapimbjgfplhaaRows
import Derived.Test.YtbapimbjgfplhaaMaps
import Derived.WalkKit
import Derived.WalkSpells
import Derived.Lib.Hide
import Derived.WalkLawsBesides
namespace Go.Proofs.Ytbapimbjgfplhaa
open Go.RowKit
def truth (b : Bool) : Int := if b then -1 else 0
def addF (a b : Int) : Int := wrap64 (a + b)
def subF (a b : Int) : Int := wrap64 (a - b)
def mulF (a b : Int) : Int := wrap64 (a * b)
def andF (a b : Int) : Int := bits .and .i64 a b
def orF (a b : Int) : Int := bits .or .i64 a b
def xorF (a b : Int) : Int := bits .xor .i64 a b
def eqF (a b : Int) : Int := truth (a == b)
def neF (a b : Int) : Int := truth (a != b)
def ltF (a b : Int) : Int := truth (decide (a < b))
def gtF (a b : Int) : Int := truth (decide (b < a))
def ultF (a b : Int) : Int := truth (decide (IntKind.u64.wrap a < IntKind.u64.wrap b))
def qF (a b : Int) : Int := if (a.tmod b != 0) = true ∧ bits .xor .i64 (a.tmod b) b < 0 then wrap64 (wrap64 (a.tdiv b) - 1) else wrap64 (a.tdiv b)
def rF (a b : Int) : Int := if (a.tmod b != 0) = true ∧ bits .xor .i64 (a.tmod b) b < 0 then wrap64 (a.tmod b + b) else a.tmod b
def shlF (a b : Int) : Int := wrap64 (a * 2 ^ min (IntKind.u64.wrap b).toNat 64)
def shrF (a b : Int) : Int := wrap64 (IntKind.u64.wrap a / 2 ^ min (IntKind.u64.wrap b).toNat 64)
def minF (a b : Int) : Int := if b < a then b else a
def maxF (a b : Int) : Int := if a < b then b else a
def doesMap : Array MapEntry := #[{ key := .int .i64 11, val := .func (.func 31) #[] #[], born := 0 }, { key := .int .i64 12, val := .func (.func 32) #[] #[], born := 1 }, { key := .int .i64 13, val := .func (.func 33) #[] #[], born := 2 }, { key := .int .i64 14, val := .func (.func 34) #[] #[], born := 3 }, { key := .int .i64 15, val := .func (.func 36) #[] #[], born := 4 }, { key := .int .i64 16, val := .func (.func 37) #[] #[], born := 5 }, { key := .int .i64 17, val := .func (.func 38) #[] #[], born := 6 }, { key := .int .i64 18, val := .func (.func 39) #[] #[], born := 7 }, { key := .int .i64 19, val := .func (.func 40) #[] #[], born := 8 }, { key := .int .i64 20, val := .func (.func 41) #[] #[], born := 9 }, { key := .int .i64 21, val := .func (.func 42) #[] #[], born := 10 }, { key := .int .i64 22, val := .func (.func 43) #[] #[], born := 11 }, { key := .int .i64 23, val := .func (.func 44) #[] #[], born := 12 }, { key := .int .i64 24, val := .func (.func 45) #[] #[], born := 13 }, { key := .int .i64 25, val := .func (.func 46) #[] #[], born := 14 }, { key := .int .i64 26, val := .func (.func 47) #[] #[], born := 15 }, { key := .int .i64 27, val := .func (.func 48) #[] #[], born := 16 }]
theorem truth_any (b : Bool) (w : World) : Calls Try.prog 23 #[.bool b] w fun e w' => e = .returned (.int .i64 (truth b)) ∧ w = w' := by
  cases b
  · go_enter Try.func23, Try.ntmps23
    go_wp2
    go_ret
    exact ⟨rfl, rfl⟩
  · go_enter Try.func23, Try.ntmps23
    go_wp2
    go_ret
    exact ⟨rfl, rfl⟩
theorem does_any (w : World) :
    Calls Try.prog 25 #[] w fun e w' => e = .returned (.map (some w.heap.size)) ∧ w.alloc (.map doesMap 17) = w' := by
  have hmm := @run_makeMap Try.prog
  have hin := fun (es : Array MapEntry) (c : Nat) (k : Int) (v : Value) hf => @run_insert_new Try.prog 41 3 39 Try.underlying41 .i64 Try.underlying3 w es c k v hf
  have i0 := hin #[] 0 11 (.func (.func 31) #[] #[]) rfl
  have i1 := hin #[{ key := .int .i64 11, val := .func (.func 31) #[] #[], born := 0 }] 1 12 (.func (.func 32) #[] #[]) rfl
  have i2 := hin #[{ key := .int .i64 11, val := .func (.func 31) #[] #[], born := 0 }, { key := .int .i64 12, val := .func (.func 32) #[] #[], born := 1 }] 2 13 (.func (.func 33) #[] #[]) rfl
  have i3 := hin #[{ key := .int .i64 11, val := .func (.func 31) #[] #[], born := 0 }, { key := .int .i64 12, val := .func (.func 32) #[] #[], born := 1 }, { key := .int .i64 13, val := .func (.func 33) #[] #[], born := 2 }] 3 14 (.func (.func 34) #[] #[]) rfl
  have i4 := hin #[{ key := .int .i64 11, val := .func (.func 31) #[] #[], born := 0 }, { key := .int .i64 12, val := .func (.func 32) #[] #[], born := 1 }, { key := .int .i64 13, val := .func (.func 33) #[] #[], born := 2 }, { key := .int .i64 14, val := .func (.func 34) #[] #[], born := 3 }] 4 15 (.func (.func 36) #[] #[]) rfl
  have i5 := hin #[{ key := .int .i64 11, val := .func (.func 31) #[] #[], born := 0 }, { key := .int .i64 12, val := .func (.func 32) #[] #[], born := 1 }, { key := .int .i64 13, val := .func (.func 33) #[] #[], born := 2 }, { key := .int .i64 14, val := .func (.func 34) #[] #[], born := 3 }, { key := .int .i64 15, val := .func (.func 36) #[] #[], born := 4 }] 5 16 (.func (.func 37) #[] #[]) rfl
  have i6 := hin #[{ key := .int .i64 11, val := .func (.func 31) #[] #[], born := 0 }, { key := .int .i64 12, val := .func (.func 32) #[] #[], born := 1 }, { key := .int .i64 13, val := .func (.func 33) #[] #[], born := 2 }, { key := .int .i64 14, val := .func (.func 34) #[] #[], born := 3 }, { key := .int .i64 15, val := .func (.func 36) #[] #[], born := 4 }, { key := .int .i64 16, val := .func (.func 37) #[] #[], born := 5 }] 6 17 (.func (.func 38) #[] #[]) rfl
  have i7 := hin #[{ key := .int .i64 11, val := .func (.func 31) #[] #[], born := 0 }, { key := .int .i64 12, val := .func (.func 32) #[] #[], born := 1 }, { key := .int .i64 13, val := .func (.func 33) #[] #[], born := 2 }, { key := .int .i64 14, val := .func (.func 34) #[] #[], born := 3 }, { key := .int .i64 15, val := .func (.func 36) #[] #[], born := 4 }, { key := .int .i64 16, val := .func (.func 37) #[] #[], born := 5 }, { key := .int .i64 17, val := .func (.func 38) #[] #[], born := 6 }] 7 18 (.func (.func 39) #[] #[]) rfl
  have i8 := hin #[{ key := .int .i64 11, val := .func (.func 31) #[] #[], born := 0 }, { key := .int .i64 12, val := .func (.func 32) #[] #[], born := 1 }, { key := .int .i64 13, val := .func (.func 33) #[] #[], born := 2 }, { key := .int .i64 14, val := .func (.func 34) #[] #[], born := 3 }, { key := .int .i64 15, val := .func (.func 36) #[] #[], born := 4 }, { key := .int .i64 16, val := .func (.func 37) #[] #[], born := 5 }, { key := .int .i64 17, val := .func (.func 38) #[] #[], born := 6 }, { key := .int .i64 18, val := .func (.func 39) #[] #[], born := 7 }] 8 19 (.func (.func 40) #[] #[]) rfl
  have i9 := hin #[{ key := .int .i64 11, val := .func (.func 31) #[] #[], born := 0 }, { key := .int .i64 12, val := .func (.func 32) #[] #[], born := 1 }, { key := .int .i64 13, val := .func (.func 33) #[] #[], born := 2 }, { key := .int .i64 14, val := .func (.func 34) #[] #[], born := 3 }, { key := .int .i64 15, val := .func (.func 36) #[] #[], born := 4 }, { key := .int .i64 16, val := .func (.func 37) #[] #[], born := 5 }, { key := .int .i64 17, val := .func (.func 38) #[] #[], born := 6 }, { key := .int .i64 18, val := .func (.func 39) #[] #[], born := 7 }, { key := .int .i64 19, val := .func (.func 40) #[] #[], born := 8 }] 9 20 (.func (.func 41) #[] #[]) rfl
  have i10 := hin #[{ key := .int .i64 11, val := .func (.func 31) #[] #[], born := 0 }, { key := .int .i64 12, val := .func (.func 32) #[] #[], born := 1 }, { key := .int .i64 13, val := .func (.func 33) #[] #[], born := 2 }, { key := .int .i64 14, val := .func (.func 34) #[] #[], born := 3 }, { key := .int .i64 15, val := .func (.func 36) #[] #[], born := 4 }, { key := .int .i64 16, val := .func (.func 37) #[] #[], born := 5 }, { key := .int .i64 17, val := .func (.func 38) #[] #[], born := 6 }, { key := .int .i64 18, val := .func (.func 39) #[] #[], born := 7 }, { key := .int .i64 19, val := .func (.func 40) #[] #[], born := 8 }, { key := .int .i64 20, val := .func (.func 41) #[] #[], born := 9 }] 10 21 (.func (.func 42) #[] #[]) rfl
  have i11 := hin #[{ key := .int .i64 11, val := .func (.func 31) #[] #[], born := 0 }, { key := .int .i64 12, val := .func (.func 32) #[] #[], born := 1 }, { key := .int .i64 13, val := .func (.func 33) #[] #[], born := 2 }, { key := .int .i64 14, val := .func (.func 34) #[] #[], born := 3 }, { key := .int .i64 15, val := .func (.func 36) #[] #[], born := 4 }, { key := .int .i64 16, val := .func (.func 37) #[] #[], born := 5 }, { key := .int .i64 17, val := .func (.func 38) #[] #[], born := 6 }, { key := .int .i64 18, val := .func (.func 39) #[] #[], born := 7 }, { key := .int .i64 19, val := .func (.func 40) #[] #[], born := 8 }, { key := .int .i64 20, val := .func (.func 41) #[] #[], born := 9 }, { key := .int .i64 21, val := .func (.func 42) #[] #[], born := 10 }] 11 22 (.func (.func 43) #[] #[]) rfl
  have i12 := hin #[{ key := .int .i64 11, val := .func (.func 31) #[] #[], born := 0 }, { key := .int .i64 12, val := .func (.func 32) #[] #[], born := 1 }, { key := .int .i64 13, val := .func (.func 33) #[] #[], born := 2 }, { key := .int .i64 14, val := .func (.func 34) #[] #[], born := 3 }, { key := .int .i64 15, val := .func (.func 36) #[] #[], born := 4 }, { key := .int .i64 16, val := .func (.func 37) #[] #[], born := 5 }, { key := .int .i64 17, val := .func (.func 38) #[] #[], born := 6 }, { key := .int .i64 18, val := .func (.func 39) #[] #[], born := 7 }, { key := .int .i64 19, val := .func (.func 40) #[] #[], born := 8 }, { key := .int .i64 20, val := .func (.func 41) #[] #[], born := 9 }, { key := .int .i64 21, val := .func (.func 42) #[] #[], born := 10 }, { key := .int .i64 22, val := .func (.func 43) #[] #[], born := 11 }] 12 23 (.func (.func 44) #[] #[]) rfl
  have i13 := hin #[{ key := .int .i64 11, val := .func (.func 31) #[] #[], born := 0 }, { key := .int .i64 12, val := .func (.func 32) #[] #[], born := 1 }, { key := .int .i64 13, val := .func (.func 33) #[] #[], born := 2 }, { key := .int .i64 14, val := .func (.func 34) #[] #[], born := 3 }, { key := .int .i64 15, val := .func (.func 36) #[] #[], born := 4 }, { key := .int .i64 16, val := .func (.func 37) #[] #[], born := 5 }, { key := .int .i64 17, val := .func (.func 38) #[] #[], born := 6 }, { key := .int .i64 18, val := .func (.func 39) #[] #[], born := 7 }, { key := .int .i64 19, val := .func (.func 40) #[] #[], born := 8 }, { key := .int .i64 20, val := .func (.func 41) #[] #[], born := 9 }, { key := .int .i64 21, val := .func (.func 42) #[] #[], born := 10 }, { key := .int .i64 22, val := .func (.func 43) #[] #[], born := 11 }, { key := .int .i64 23, val := .func (.func 44) #[] #[], born := 12 }] 13 24 (.func (.func 45) #[] #[]) rfl
  have i14 := hin #[{ key := .int .i64 11, val := .func (.func 31) #[] #[], born := 0 }, { key := .int .i64 12, val := .func (.func 32) #[] #[], born := 1 }, { key := .int .i64 13, val := .func (.func 33) #[] #[], born := 2 }, { key := .int .i64 14, val := .func (.func 34) #[] #[], born := 3 }, { key := .int .i64 15, val := .func (.func 36) #[] #[], born := 4 }, { key := .int .i64 16, val := .func (.func 37) #[] #[], born := 5 }, { key := .int .i64 17, val := .func (.func 38) #[] #[], born := 6 }, { key := .int .i64 18, val := .func (.func 39) #[] #[], born := 7 }, { key := .int .i64 19, val := .func (.func 40) #[] #[], born := 8 }, { key := .int .i64 20, val := .func (.func 41) #[] #[], born := 9 }, { key := .int .i64 21, val := .func (.func 42) #[] #[], born := 10 }, { key := .int .i64 22, val := .func (.func 43) #[] #[], born := 11 }, { key := .int .i64 23, val := .func (.func 44) #[] #[], born := 12 }, { key := .int .i64 24, val := .func (.func 45) #[] #[], born := 13 }] 14 25 (.func (.func 46) #[] #[]) rfl
  have i15 := hin #[{ key := .int .i64 11, val := .func (.func 31) #[] #[], born := 0 }, { key := .int .i64 12, val := .func (.func 32) #[] #[], born := 1 }, { key := .int .i64 13, val := .func (.func 33) #[] #[], born := 2 }, { key := .int .i64 14, val := .func (.func 34) #[] #[], born := 3 }, { key := .int .i64 15, val := .func (.func 36) #[] #[], born := 4 }, { key := .int .i64 16, val := .func (.func 37) #[] #[], born := 5 }, { key := .int .i64 17, val := .func (.func 38) #[] #[], born := 6 }, { key := .int .i64 18, val := .func (.func 39) #[] #[], born := 7 }, { key := .int .i64 19, val := .func (.func 40) #[] #[], born := 8 }, { key := .int .i64 20, val := .func (.func 41) #[] #[], born := 9 }, { key := .int .i64 21, val := .func (.func 42) #[] #[], born := 10 }, { key := .int .i64 22, val := .func (.func 43) #[] #[], born := 11 }, { key := .int .i64 23, val := .func (.func 44) #[] #[], born := 12 }, { key := .int .i64 24, val := .func (.func 45) #[] #[], born := 13 }, { key := .int .i64 25, val := .func (.func 46) #[] #[], born := 14 }] 15 26 (.func (.func 47) #[] #[]) rfl
  have i16 := hin #[{ key := .int .i64 11, val := .func (.func 31) #[] #[], born := 0 }, { key := .int .i64 12, val := .func (.func 32) #[] #[], born := 1 }, { key := .int .i64 13, val := .func (.func 33) #[] #[], born := 2 }, { key := .int .i64 14, val := .func (.func 34) #[] #[], born := 3 }, { key := .int .i64 15, val := .func (.func 36) #[] #[], born := 4 }, { key := .int .i64 16, val := .func (.func 37) #[] #[], born := 5 }, { key := .int .i64 17, val := .func (.func 38) #[] #[], born := 6 }, { key := .int .i64 18, val := .func (.func 39) #[] #[], born := 7 }, { key := .int .i64 19, val := .func (.func 40) #[] #[], born := 8 }, { key := .int .i64 20, val := .func (.func 41) #[] #[], born := 9 }, { key := .int .i64 21, val := .func (.func 42) #[] #[], born := 10 }, { key := .int .i64 22, val := .func (.func 43) #[] #[], born := 11 }, { key := .int .i64 23, val := .func (.func 44) #[] #[], born := 12 }, { key := .int .i64 24, val := .func (.func 45) #[] #[], born := 13 }, { key := .int .i64 25, val := .func (.func 46) #[] #[], born := 14 }, { key := .int .i64 26, val := .func (.func 47) #[] #[], born := 15 }] 16 27 (.func (.func 48) #[] #[]) rfl
  clear hin
  simp only [List.push_toArray, List.nil_append, List.cons_append, Nat.reduceAdd] at i0 i1 i2 i3 i4 i5 i6 i7 i8 i9 i10 i11 i12 i13 i14 i15 i16
  go_enter Try.func25, Try.ntmps25
  go_wp2
  go_ret
  exact ⟨rfl, rfl⟩
theorem cl31 (a b : Int) (w : World) : Calls Try.prog 31 #[.int .i64 a, .int .i64 b] w fun e w' => e = .returned (.int .i64 (addF a b)) ∧ Below w.heap.size w w' := by
  go_enter Try.func31, Try.ntmps31
  go_wp2
  go_ret
  exact ⟨rfl, Below.refl _ _⟩
theorem cl32 (a b : Int) (w : World) : Calls Try.prog 32 #[.int .i64 a, .int .i64 b] w fun e w' => e = .returned (.int .i64 (subF a b)) ∧ Below w.heap.size w w' := by
  go_enter Try.func32, Try.ntmps32
  go_wp2
  go_ret
  exact ⟨rfl, Below.refl _ _⟩
theorem cl33 (a b : Int) (w : World) : Calls Try.prog 33 #[.int .i64 a, .int .i64 b] w fun e w' => e = .returned (.int .i64 (mulF a b)) ∧ Below w.heap.size w w' := by
  go_enter Try.func33, Try.ntmps33
  go_wp2
  go_ret
  exact ⟨rfl, Below.refl _ _⟩
theorem cl37 (a b : Int) (w : World) : Calls Try.prog 37 #[.int .i64 a, .int .i64 b] w fun e w' => e = .returned (.int .i64 (andF a b)) ∧ Below w.heap.size w w' := by
  go_enter Try.func37, Try.ntmps37
  go_wp2
  go_ret
  exact ⟨rfl, Below.refl _ _⟩
theorem cl38 (a b : Int) (w : World) : Calls Try.prog 38 #[.int .i64 a, .int .i64 b] w fun e w' => e = .returned (.int .i64 (orF a b)) ∧ Below w.heap.size w w' := by
  go_enter Try.func38, Try.ntmps38
  go_wp2
  go_ret
  exact ⟨rfl, Below.refl _ _⟩
theorem cl39 (a b : Int) (w : World) : Calls Try.prog 39 #[.int .i64 a, .int .i64 b] w fun e w' => e = .returned (.int .i64 (xorF a b)) ∧ Below w.heap.size w w' := by
  go_enter Try.func39, Try.ntmps39
  go_wp2
  go_ret
  exact ⟨rfl, Below.refl _ _⟩
theorem cl40 (a b : Int) (w : World) : Calls Try.prog 40 #[.int .i64 a, .int .i64 b] w fun e w' => e = .returned (.int .i64 (shlF a b)) ∧ Below w.heap.size w w' := by
  go_enter Try.func40, Try.ntmps40
  go_wp2
  go_ret
  exact ⟨rfl, Below.refl _ _⟩
theorem cl41 (a b : Int) (w : World) : Calls Try.prog 41 #[.int .i64 a, .int .i64 b] w fun e w' => e = .returned (.int .i64 (shrF a b)) ∧ Below w.heap.size w w' := by
  go_enter Try.func41, Try.ntmps41
  go_wp2
  go_ret
  exact ⟨rfl, Below.refl _ _⟩
theorem cl42 (a b : Int) (w : World) : Calls Try.prog 42 #[.int .i64 a, .int .i64 b] w fun e w' => e = .returned (.int .i64 (eqF a b)) ∧ Below w.heap.size w w' := by
  go_enter Try.func42, Try.ntmps42
  go_wp2_with (go_at_call 23; refine (truth_any _ _).mono ?_; rintro e w' ⟨rfl, rfl⟩)
  go_ret
  exact ⟨rfl, Below.refl _ _⟩
theorem cl43 (a b : Int) (w : World) : Calls Try.prog 43 #[.int .i64 a, .int .i64 b] w fun e w' => e = .returned (.int .i64 (neF a b)) ∧ Below w.heap.size w w' := by
  go_enter Try.func43, Try.ntmps43
  go_wp2_with (go_at_call 23; refine (truth_any _ _).mono ?_; rintro e w' ⟨rfl, rfl⟩)
  go_ret
  exact ⟨rfl, Below.refl _ _⟩
theorem cl44 (a b : Int) (w : World) : Calls Try.prog 44 #[.int .i64 a, .int .i64 b] w fun e w' => e = .returned (.int .i64 (ltF a b)) ∧ Below w.heap.size w w' := by
  go_enter Try.func44, Try.ntmps44
  go_wp2_with (go_at_call 23; refine (truth_any _ _).mono ?_; rintro e w' ⟨rfl, rfl⟩)
  go_ret
  exact ⟨rfl, Below.refl _ _⟩
theorem cl45 (a b : Int) (w : World) : Calls Try.prog 45 #[.int .i64 a, .int .i64 b] w fun e w' => e = .returned (.int .i64 (gtF a b)) ∧ Below w.heap.size w w' := by
  go_enter Try.func45, Try.ntmps45
  go_wp2_with (go_at_call 23; refine (truth_any _ _).mono ?_; rintro e w' ⟨rfl, rfl⟩)
  go_ret
  exact ⟨rfl, Below.refl _ _⟩
theorem cl46 (a b : Int) (w : World) : Calls Try.prog 46 #[.int .i64 a, .int .i64 b] w fun e w' => e = .returned (.int .i64 (ultF a b)) ∧ Below w.heap.size w w' := by
  go_enter Try.func46, Try.ntmps46
  go_wp2_with (go_at_call 23; refine (truth_any _ _).mono ?_; rintro e w' ⟨rfl, rfl⟩)
  go_ret
  exact ⟨rfl, Below.refl _ _⟩
theorem cl47 (a b : Int) (w : World) : Calls Try.prog 47 #[.int .i64 a, .int .i64 b] w fun e w' => e = .returned (.int .i64 (minF a b)) ∧ Below w.heap.size w w' := by
  by_cases h : b < a
  · have HV := Lib.hid (show minF a b = b by simp [minF, h])
    go_enter Try.func47, Try.ntmps47
    go_wp2
    go_ret
    exact ⟨by rw [HV.out]; rfl, Below.refl _ _⟩
  · have HV := Lib.hid (show minF a b = a by simp [minF, h])
    go_enter Try.func47, Try.ntmps47
    go_wp2
    go_ret
    exact ⟨by rw [HV.out]; rfl, Below.refl _ _⟩
theorem cl48 (a b : Int) (w : World) : Calls Try.prog 48 #[.int .i64 a, .int .i64 b] w fun e w' => e = .returned (.int .i64 (maxF a b)) ∧ Below w.heap.size w w' := by
  by_cases h : a < b
  · have HV := Lib.hid (show maxF a b = b by simp [maxF, h])
    go_enter Try.func48, Try.ntmps48
    go_wp2
    go_ret
    exact ⟨by rw [HV.out]; rfl, Below.refl _ _⟩
  · have HV := Lib.hid (show maxF a b = a by simp [maxF, h])
    go_enter Try.func48, Try.ntmps48
    go_wp2
    go_ret
    exact ⟨by rw [HV.out]; rfl, Below.refl _ _⟩
theorem floored_any (a b : Int) (w : World) (hb : ¬ b = 0) :
    Calls Try.prog 35 #[.int .i64 a, .int .i64 b] w fun e w' => e = .returned (.tuple #[.int .i64 (qF a b), .int .i64 (rF a b)]) ∧ Below w.heap.size w w' := by
  by_cases h1 : (a.tmod b != 0) = true
  · by_cases h2 : bits .xor .i64 (a.tmod b) b < 0
    · have HQ := Lib.hid (show qF a b = wrap64 (wrap64 (a.tdiv b) - 1) by simp [qF, h1, h2])
      have HR := Lib.hid (show rF a b = wrap64 (a.tmod b + b) by simp [rF, h1, h2])
      go_enter Try.func35, Try.ntmps35
      go_wp2
      go_region
      all_goals go_wp2
      all_goals go_ret2
      all_goals exact ⟨by rw [HQ.out, HR.out]; rfl, (Below.refl _ _).drew⟩
    · have HQ := Lib.hid (show qF a b = wrap64 (a.tdiv b) by simp [qF, h2])
      have HR := Lib.hid (show rF a b = a.tmod b by simp [rF, h2])
      go_enter Try.func35, Try.ntmps35
      go_wp2
      go_region
      all_goals go_wp2
      all_goals go_ret2
      all_goals exact ⟨by rw [HQ.out, HR.out]; rfl, (Below.refl _ _).drew⟩
  · have h1 : (a.tmod b != 0) = false := by simpa using h1
    have HQ := Lib.hid (show qF a b = wrap64 (a.tdiv b) by simp [qF, h1])
    have HR := Lib.hid (show rF a b = a.tmod b by simp [rF, h1])
    go_enter Try.func35, Try.ntmps35
    go_wp2
    go_region
    all_goals go_wp2
    all_goals go_ret2
    all_goals exact ⟨by rw [HQ.out, HR.out]; rfl, (Below.refl _ _).drew⟩
theorem cl34 (a b : Int) (w : World) (hb : ¬ b = 0) : Calls Try.prog 34 #[.int .i64 a, .int .i64 b] w fun e w' => e = .returned (.int .i64 (qF a b)) ∧ Below w.heap.size w w' := by
  go_enter Try.func34, Try.ntmps34
  go_wp2_with fail
  refine (floored_any _ _ _ hb).mono ?_
  rintro e w1 ⟨rfl, hB⟩
  go_wp2
  go_ret
  exact ⟨rfl, hB⟩
theorem cl36 (a b : Int) (w : World) (hb : ¬ b = 0) : Calls Try.prog 36 #[.int .i64 a, .int .i64 b] w fun e w' => e = .returned (.int .i64 (rF a b)) ∧ Below w.heap.size w w' := by
  go_enter Try.func36, Try.ntmps36
  go_wp2_with fail
  refine (floored_any _ _ _ hb).mono ?_
  rintro e w1 ⟨rfl, hB⟩
  go_wp2
  go_ret
  exact ⟨rfl, hB⟩
theorem two_11 (a b : Int) (w : World) : Calls Try.prog 11 #[.int .i64 11, .int .i64 a, .int .i64 b] w fun e w' => e = .returned (.tuple #[.int .i64 (addF a b), .int .i64 0]) ∧ Below w.heap.size w w' := by
  by_cases h0 : b = 0
  · subst h0
    go_enter Try.func11, Try.ntmps11
    go_wp2_with fail
    refine (does_any _).mono ?_
    rintro e w1 ⟨rfl, rfl⟩
    have hl := run_look_ok (P := Try.prog) (mty := 41) Try.underlying41 Try.underlying3 (k := 11) (MapKept.heap_alloc w (.map doesMap 17)).1 rfl
    have hA := (Below.refl w.heap.size w).alloc (Nat.le_refl _) (.map doesMap 17)
    go_wp2_with fail
    refine (cl31 _ _ _).mono ?_
    rintro e w2 ⟨rfl, hB⟩
    go_wp2
    go_ret2
    exact ⟨rfl, hA.trans (hB.mono (by simp))⟩
  · have hb : (b == 0) = false := by simpa using h0
    go_enter Try.func11, Try.ntmps11
    go_wp2_with fail
    refine (does_any _).mono ?_
    rintro e w1 ⟨rfl, rfl⟩
    have hl := run_look_ok (P := Try.prog) (mty := 41) Try.underlying41 Try.underlying3 (k := 11) (MapKept.heap_alloc w (.map doesMap 17)).1 rfl
    have hA := (Below.refl w.heap.size w).alloc (Nat.le_refl _) (.map doesMap 17)
    go_wp2_with fail
    refine (cl31 _ _ _).mono ?_
    rintro e w2 ⟨rfl, hB⟩
    go_wp2
    go_ret2
    exact ⟨rfl, hA.trans (hB.mono (by simp))⟩
theorem two_12 (a b : Int) (w : World) : Calls Try.prog 11 #[.int .i64 12, .int .i64 a, .int .i64 b] w fun e w' => e = .returned (.tuple #[.int .i64 (subF a b), .int .i64 0]) ∧ Below w.heap.size w w' := by
  by_cases h0 : b = 0
  · subst h0
    go_enter Try.func11, Try.ntmps11
    go_wp2_with fail
    refine (does_any _).mono ?_
    rintro e w1 ⟨rfl, rfl⟩
    have hl := run_look_ok (P := Try.prog) (mty := 41) Try.underlying41 Try.underlying3 (k := 12) (MapKept.heap_alloc w (.map doesMap 17)).1 rfl
    have hA := (Below.refl w.heap.size w).alloc (Nat.le_refl _) (.map doesMap 17)
    go_wp2_with fail
    refine (cl32 _ _ _).mono ?_
    rintro e w2 ⟨rfl, hB⟩
    go_wp2
    go_ret2
    exact ⟨rfl, hA.trans (hB.mono (by simp))⟩
  · have hb : (b == 0) = false := by simpa using h0
    go_enter Try.func11, Try.ntmps11
    go_wp2_with fail
    refine (does_any _).mono ?_
    rintro e w1 ⟨rfl, rfl⟩
    have hl := run_look_ok (P := Try.prog) (mty := 41) Try.underlying41 Try.underlying3 (k := 12) (MapKept.heap_alloc w (.map doesMap 17)).1 rfl
    have hA := (Below.refl w.heap.size w).alloc (Nat.le_refl _) (.map doesMap 17)
    go_wp2_with fail
    refine (cl32 _ _ _).mono ?_
    rintro e w2 ⟨rfl, hB⟩
    go_wp2
    go_ret2
    exact ⟨rfl, hA.trans (hB.mono (by simp))⟩
theorem two_13 (a b : Int) (w : World) : Calls Try.prog 11 #[.int .i64 13, .int .i64 a, .int .i64 b] w fun e w' => e = .returned (.tuple #[.int .i64 (mulF a b), .int .i64 0]) ∧ Below w.heap.size w w' := by
  by_cases h0 : b = 0
  · subst h0
    go_enter Try.func11, Try.ntmps11
    go_wp2_with fail
    refine (does_any _).mono ?_
    rintro e w1 ⟨rfl, rfl⟩
    have hl := run_look_ok (P := Try.prog) (mty := 41) Try.underlying41 Try.underlying3 (k := 13) (MapKept.heap_alloc w (.map doesMap 17)).1 rfl
    have hA := (Below.refl w.heap.size w).alloc (Nat.le_refl _) (.map doesMap 17)
    go_wp2_with fail
    refine (cl33 _ _ _).mono ?_
    rintro e w2 ⟨rfl, hB⟩
    go_wp2
    go_ret2
    exact ⟨rfl, hA.trans (hB.mono (by simp))⟩
  · have hb : (b == 0) = false := by simpa using h0
    go_enter Try.func11, Try.ntmps11
    go_wp2_with fail
    refine (does_any _).mono ?_
    rintro e w1 ⟨rfl, rfl⟩
    have hl := run_look_ok (P := Try.prog) (mty := 41) Try.underlying41 Try.underlying3 (k := 13) (MapKept.heap_alloc w (.map doesMap 17)).1 rfl
    have hA := (Below.refl w.heap.size w).alloc (Nat.le_refl _) (.map doesMap 17)
    go_wp2_with fail
    refine (cl33 _ _ _).mono ?_
    rintro e w2 ⟨rfl, hB⟩
    go_wp2
    go_ret2
    exact ⟨rfl, hA.trans (hB.mono (by simp))⟩
theorem two_14z (a : Int) (w : World) : Calls Try.prog 11 #[.int .i64 14, .int .i64 a, .int .i64 0] w fun e w' => e = .returned (.tuple #[.int .i64 0, .int .i64 (-10)]) ∧ Below w.heap.size w w' := by
    go_enter Try.func11, Try.ntmps11
    go_wp2_with fail
    refine (does_any _).mono ?_
    rintro e w1 ⟨rfl, rfl⟩
    have hl := run_look_ok (P := Try.prog) (mty := 41) Try.underlying41 Try.underlying3 (k := 14) (MapKept.heap_alloc w (.map doesMap 17)).1 rfl
    have hA := (Below.refl w.heap.size w).alloc (Nat.le_refl _) (.map doesMap 17)
    go_wp2_with fail
    go_ret2
    exact ⟨rfl, hA⟩
theorem two_14 (a b : Int) (w : World) (h0 : ¬ b = 0) : Calls Try.prog 11 #[.int .i64 14, .int .i64 a, .int .i64 b] w fun e w' => e = .returned (.tuple #[.int .i64 (qF a b), .int .i64 0]) ∧ Below w.heap.size w w' := by
    have hb : (b == 0) = false := by simpa using h0
    go_enter Try.func11, Try.ntmps11
    go_wp2_with fail
    refine (does_any _).mono ?_
    rintro e w1 ⟨rfl, rfl⟩
    have hl := run_look_ok (P := Try.prog) (mty := 41) Try.underlying41 Try.underlying3 (k := 14) (MapKept.heap_alloc w (.map doesMap 17)).1 rfl
    have hA := (Below.refl w.heap.size w).alloc (Nat.le_refl _) (.map doesMap 17)
    go_wp2_with fail
    refine (cl34 _ _ _ h0).mono ?_
    rintro e w2 ⟨rfl, hB⟩
    go_wp2
    go_ret2
    exact ⟨rfl, hA.trans (hB.mono (by simp))⟩
theorem two_15z (a : Int) (w : World) : Calls Try.prog 11 #[.int .i64 15, .int .i64 a, .int .i64 0] w fun e w' => e = .returned (.tuple #[.int .i64 0, .int .i64 (-10)]) ∧ Below w.heap.size w w' := by
    go_enter Try.func11, Try.ntmps11
    go_wp2_with fail
    refine (does_any _).mono ?_
    rintro e w1 ⟨rfl, rfl⟩
    have hl := run_look_ok (P := Try.prog) (mty := 41) Try.underlying41 Try.underlying3 (k := 15) (MapKept.heap_alloc w (.map doesMap 17)).1 rfl
    have hA := (Below.refl w.heap.size w).alloc (Nat.le_refl _) (.map doesMap 17)
    go_wp2_with fail
    go_ret2
    exact ⟨rfl, hA⟩
theorem two_15 (a b : Int) (w : World) (h0 : ¬ b = 0) : Calls Try.prog 11 #[.int .i64 15, .int .i64 a, .int .i64 b] w fun e w' => e = .returned (.tuple #[.int .i64 (rF a b), .int .i64 0]) ∧ Below w.heap.size w w' := by
    have hb : (b == 0) = false := by simpa using h0
    go_enter Try.func11, Try.ntmps11
    go_wp2_with fail
    refine (does_any _).mono ?_
    rintro e w1 ⟨rfl, rfl⟩
    have hl := run_look_ok (P := Try.prog) (mty := 41) Try.underlying41 Try.underlying3 (k := 15) (MapKept.heap_alloc w (.map doesMap 17)).1 rfl
    have hA := (Below.refl w.heap.size w).alloc (Nat.le_refl _) (.map doesMap 17)
    go_wp2_with fail
    refine (cl36 _ _ _ h0).mono ?_
    rintro e w2 ⟨rfl, hB⟩
    go_wp2
    go_ret2
    exact ⟨rfl, hA.trans (hB.mono (by simp))⟩
theorem two_16 (a b : Int) (w : World) : Calls Try.prog 11 #[.int .i64 16, .int .i64 a, .int .i64 b] w fun e w' => e = .returned (.tuple #[.int .i64 (andF a b), .int .i64 0]) ∧ Below w.heap.size w w' := by
  by_cases h0 : b = 0
  · subst h0
    go_enter Try.func11, Try.ntmps11
    go_wp2_with fail
    refine (does_any _).mono ?_
    rintro e w1 ⟨rfl, rfl⟩
    have hl := run_look_ok (P := Try.prog) (mty := 41) Try.underlying41 Try.underlying3 (k := 16) (MapKept.heap_alloc w (.map doesMap 17)).1 rfl
    have hA := (Below.refl w.heap.size w).alloc (Nat.le_refl _) (.map doesMap 17)
    go_wp2_with fail
    refine (cl37 _ _ _).mono ?_
    rintro e w2 ⟨rfl, hB⟩
    go_wp2
    go_ret2
    exact ⟨rfl, hA.trans (hB.mono (by simp))⟩
  · have hb : (b == 0) = false := by simpa using h0
    go_enter Try.func11, Try.ntmps11
    go_wp2_with fail
    refine (does_any _).mono ?_
    rintro e w1 ⟨rfl, rfl⟩
    have hl := run_look_ok (P := Try.prog) (mty := 41) Try.underlying41 Try.underlying3 (k := 16) (MapKept.heap_alloc w (.map doesMap 17)).1 rfl
    have hA := (Below.refl w.heap.size w).alloc (Nat.le_refl _) (.map doesMap 17)
    go_wp2_with fail
    refine (cl37 _ _ _).mono ?_
    rintro e w2 ⟨rfl, hB⟩
    go_wp2
    go_ret2
    exact ⟨rfl, hA.trans (hB.mono (by simp))⟩
theorem two_17 (a b : Int) (w : World) : Calls Try.prog 11 #[.int .i64 17, .int .i64 a, .int .i64 b] w fun e w' => e = .returned (.tuple #[.int .i64 (orF a b), .int .i64 0]) ∧ Below w.heap.size w w' := by
  by_cases h0 : b = 0
  · subst h0
    go_enter Try.func11, Try.ntmps11
    go_wp2_with fail
    refine (does_any _).mono ?_
    rintro e w1 ⟨rfl, rfl⟩
    have hl := run_look_ok (P := Try.prog) (mty := 41) Try.underlying41 Try.underlying3 (k := 17) (MapKept.heap_alloc w (.map doesMap 17)).1 rfl
    have hA := (Below.refl w.heap.size w).alloc (Nat.le_refl _) (.map doesMap 17)
    go_wp2_with fail
    refine (cl38 _ _ _).mono ?_
    rintro e w2 ⟨rfl, hB⟩
    go_wp2
    go_ret2
    exact ⟨rfl, hA.trans (hB.mono (by simp))⟩
  · have hb : (b == 0) = false := by simpa using h0
    go_enter Try.func11, Try.ntmps11
    go_wp2_with fail
    refine (does_any _).mono ?_
    rintro e w1 ⟨rfl, rfl⟩
    have hl := run_look_ok (P := Try.prog) (mty := 41) Try.underlying41 Try.underlying3 (k := 17) (MapKept.heap_alloc w (.map doesMap 17)).1 rfl
    have hA := (Below.refl w.heap.size w).alloc (Nat.le_refl _) (.map doesMap 17)
    go_wp2_with fail
    refine (cl38 _ _ _).mono ?_
    rintro e w2 ⟨rfl, hB⟩
    go_wp2
    go_ret2
    exact ⟨rfl, hA.trans (hB.mono (by simp))⟩
theorem two_18 (a b : Int) (w : World) : Calls Try.prog 11 #[.int .i64 18, .int .i64 a, .int .i64 b] w fun e w' => e = .returned (.tuple #[.int .i64 (xorF a b), .int .i64 0]) ∧ Below w.heap.size w w' := by
  by_cases h0 : b = 0
  · subst h0
    go_enter Try.func11, Try.ntmps11
    go_wp2_with fail
    refine (does_any _).mono ?_
    rintro e w1 ⟨rfl, rfl⟩
    have hl := run_look_ok (P := Try.prog) (mty := 41) Try.underlying41 Try.underlying3 (k := 18) (MapKept.heap_alloc w (.map doesMap 17)).1 rfl
    have hA := (Below.refl w.heap.size w).alloc (Nat.le_refl _) (.map doesMap 17)
    go_wp2_with fail
    refine (cl39 _ _ _).mono ?_
    rintro e w2 ⟨rfl, hB⟩
    go_wp2
    go_ret2
    exact ⟨rfl, hA.trans (hB.mono (by simp))⟩
  · have hb : (b == 0) = false := by simpa using h0
    go_enter Try.func11, Try.ntmps11
    go_wp2_with fail
    refine (does_any _).mono ?_
    rintro e w1 ⟨rfl, rfl⟩
    have hl := run_look_ok (P := Try.prog) (mty := 41) Try.underlying41 Try.underlying3 (k := 18) (MapKept.heap_alloc w (.map doesMap 17)).1 rfl
    have hA := (Below.refl w.heap.size w).alloc (Nat.le_refl _) (.map doesMap 17)
    go_wp2_with fail
    refine (cl39 _ _ _).mono ?_
    rintro e w2 ⟨rfl, hB⟩
    go_wp2
    go_ret2
    exact ⟨rfl, hA.trans (hB.mono (by simp))⟩
theorem two_19 (a b : Int) (w : World) : Calls Try.prog 11 #[.int .i64 19, .int .i64 a, .int .i64 b] w fun e w' => e = .returned (.tuple #[.int .i64 (shlF a b), .int .i64 0]) ∧ Below w.heap.size w w' := by
  by_cases h0 : b = 0
  · subst h0
    go_enter Try.func11, Try.ntmps11
    go_wp2_with fail
    refine (does_any _).mono ?_
    rintro e w1 ⟨rfl, rfl⟩
    have hl := run_look_ok (P := Try.prog) (mty := 41) Try.underlying41 Try.underlying3 (k := 19) (MapKept.heap_alloc w (.map doesMap 17)).1 rfl
    have hA := (Below.refl w.heap.size w).alloc (Nat.le_refl _) (.map doesMap 17)
    go_wp2_with fail
    refine (cl40 _ _ _).mono ?_
    rintro e w2 ⟨rfl, hB⟩
    go_wp2
    go_ret2
    exact ⟨rfl, hA.trans (hB.mono (by simp))⟩
  · have hb : (b == 0) = false := by simpa using h0
    go_enter Try.func11, Try.ntmps11
    go_wp2_with fail
    refine (does_any _).mono ?_
    rintro e w1 ⟨rfl, rfl⟩
    have hl := run_look_ok (P := Try.prog) (mty := 41) Try.underlying41 Try.underlying3 (k := 19) (MapKept.heap_alloc w (.map doesMap 17)).1 rfl
    have hA := (Below.refl w.heap.size w).alloc (Nat.le_refl _) (.map doesMap 17)
    go_wp2_with fail
    refine (cl40 _ _ _).mono ?_
    rintro e w2 ⟨rfl, hB⟩
    go_wp2
    go_ret2
    exact ⟨rfl, hA.trans (hB.mono (by simp))⟩
theorem two_20 (a b : Int) (w : World) : Calls Try.prog 11 #[.int .i64 20, .int .i64 a, .int .i64 b] w fun e w' => e = .returned (.tuple #[.int .i64 (shrF a b), .int .i64 0]) ∧ Below w.heap.size w w' := by
  by_cases h0 : b = 0
  · subst h0
    go_enter Try.func11, Try.ntmps11
    go_wp2_with fail
    refine (does_any _).mono ?_
    rintro e w1 ⟨rfl, rfl⟩
    have hl := run_look_ok (P := Try.prog) (mty := 41) Try.underlying41 Try.underlying3 (k := 20) (MapKept.heap_alloc w (.map doesMap 17)).1 rfl
    have hA := (Below.refl w.heap.size w).alloc (Nat.le_refl _) (.map doesMap 17)
    go_wp2_with fail
    refine (cl41 _ _ _).mono ?_
    rintro e w2 ⟨rfl, hB⟩
    go_wp2
    go_ret2
    exact ⟨rfl, hA.trans (hB.mono (by simp))⟩
  · have hb : (b == 0) = false := by simpa using h0
    go_enter Try.func11, Try.ntmps11
    go_wp2_with fail
    refine (does_any _).mono ?_
    rintro e w1 ⟨rfl, rfl⟩
    have hl := run_look_ok (P := Try.prog) (mty := 41) Try.underlying41 Try.underlying3 (k := 20) (MapKept.heap_alloc w (.map doesMap 17)).1 rfl
    have hA := (Below.refl w.heap.size w).alloc (Nat.le_refl _) (.map doesMap 17)
    go_wp2_with fail
    refine (cl41 _ _ _).mono ?_
    rintro e w2 ⟨rfl, hB⟩
    go_wp2
    go_ret2
    exact ⟨rfl, hA.trans (hB.mono (by simp))⟩
theorem two_21 (a b : Int) (w : World) : Calls Try.prog 11 #[.int .i64 21, .int .i64 a, .int .i64 b] w fun e w' => e = .returned (.tuple #[.int .i64 (eqF a b), .int .i64 0]) ∧ Below w.heap.size w w' := by
  by_cases h0 : b = 0
  · subst h0
    go_enter Try.func11, Try.ntmps11
    go_wp2_with fail
    refine (does_any _).mono ?_
    rintro e w1 ⟨rfl, rfl⟩
    have hl := run_look_ok (P := Try.prog) (mty := 41) Try.underlying41 Try.underlying3 (k := 21) (MapKept.heap_alloc w (.map doesMap 17)).1 rfl
    have hA := (Below.refl w.heap.size w).alloc (Nat.le_refl _) (.map doesMap 17)
    go_wp2_with fail
    refine (cl42 _ _ _).mono ?_
    rintro e w2 ⟨rfl, hB⟩
    go_wp2
    go_ret2
    exact ⟨rfl, hA.trans (hB.mono (by simp))⟩
  · have hb : (b == 0) = false := by simpa using h0
    go_enter Try.func11, Try.ntmps11
    go_wp2_with fail
    refine (does_any _).mono ?_
    rintro e w1 ⟨rfl, rfl⟩
    have hl := run_look_ok (P := Try.prog) (mty := 41) Try.underlying41 Try.underlying3 (k := 21) (MapKept.heap_alloc w (.map doesMap 17)).1 rfl
    have hA := (Below.refl w.heap.size w).alloc (Nat.le_refl _) (.map doesMap 17)
    go_wp2_with fail
    refine (cl42 _ _ _).mono ?_
    rintro e w2 ⟨rfl, hB⟩
    go_wp2
    go_ret2
    exact ⟨rfl, hA.trans (hB.mono (by simp))⟩
theorem two_22 (a b : Int) (w : World) : Calls Try.prog 11 #[.int .i64 22, .int .i64 a, .int .i64 b] w fun e w' => e = .returned (.tuple #[.int .i64 (neF a b), .int .i64 0]) ∧ Below w.heap.size w w' := by
  by_cases h0 : b = 0
  · subst h0
    go_enter Try.func11, Try.ntmps11
    go_wp2_with fail
    refine (does_any _).mono ?_
    rintro e w1 ⟨rfl, rfl⟩
    have hl := run_look_ok (P := Try.prog) (mty := 41) Try.underlying41 Try.underlying3 (k := 22) (MapKept.heap_alloc w (.map doesMap 17)).1 rfl
    have hA := (Below.refl w.heap.size w).alloc (Nat.le_refl _) (.map doesMap 17)
    go_wp2_with fail
    refine (cl43 _ _ _).mono ?_
    rintro e w2 ⟨rfl, hB⟩
    go_wp2
    go_ret2
    exact ⟨rfl, hA.trans (hB.mono (by simp))⟩
  · have hb : (b == 0) = false := by simpa using h0
    go_enter Try.func11, Try.ntmps11
    go_wp2_with fail
    refine (does_any _).mono ?_
    rintro e w1 ⟨rfl, rfl⟩
    have hl := run_look_ok (P := Try.prog) (mty := 41) Try.underlying41 Try.underlying3 (k := 22) (MapKept.heap_alloc w (.map doesMap 17)).1 rfl
    have hA := (Below.refl w.heap.size w).alloc (Nat.le_refl _) (.map doesMap 17)
    go_wp2_with fail
    refine (cl43 _ _ _).mono ?_
    rintro e w2 ⟨rfl, hB⟩
    go_wp2
    go_ret2
    exact ⟨rfl, hA.trans (hB.mono (by simp))⟩
theorem two_23 (a b : Int) (w : World) : Calls Try.prog 11 #[.int .i64 23, .int .i64 a, .int .i64 b] w fun e w' => e = .returned (.tuple #[.int .i64 (ltF a b), .int .i64 0]) ∧ Below w.heap.size w w' := by
  by_cases h0 : b = 0
  · subst h0
    go_enter Try.func11, Try.ntmps11
    go_wp2_with fail
    refine (does_any _).mono ?_
    rintro e w1 ⟨rfl, rfl⟩
    have hl := run_look_ok (P := Try.prog) (mty := 41) Try.underlying41 Try.underlying3 (k := 23) (MapKept.heap_alloc w (.map doesMap 17)).1 rfl
    have hA := (Below.refl w.heap.size w).alloc (Nat.le_refl _) (.map doesMap 17)
    go_wp2_with fail
    refine (cl44 _ _ _).mono ?_
    rintro e w2 ⟨rfl, hB⟩
    go_wp2
    go_ret2
    exact ⟨rfl, hA.trans (hB.mono (by simp))⟩
  · have hb : (b == 0) = false := by simpa using h0
    go_enter Try.func11, Try.ntmps11
    go_wp2_with fail
    refine (does_any _).mono ?_
    rintro e w1 ⟨rfl, rfl⟩
    have hl := run_look_ok (P := Try.prog) (mty := 41) Try.underlying41 Try.underlying3 (k := 23) (MapKept.heap_alloc w (.map doesMap 17)).1 rfl
    have hA := (Below.refl w.heap.size w).alloc (Nat.le_refl _) (.map doesMap 17)
    go_wp2_with fail
    refine (cl44 _ _ _).mono ?_
    rintro e w2 ⟨rfl, hB⟩
    go_wp2
    go_ret2
    exact ⟨rfl, hA.trans (hB.mono (by simp))⟩
theorem two_24 (a b : Int) (w : World) : Calls Try.prog 11 #[.int .i64 24, .int .i64 a, .int .i64 b] w fun e w' => e = .returned (.tuple #[.int .i64 (gtF a b), .int .i64 0]) ∧ Below w.heap.size w w' := by
  by_cases h0 : b = 0
  · subst h0
    go_enter Try.func11, Try.ntmps11
    go_wp2_with fail
    refine (does_any _).mono ?_
    rintro e w1 ⟨rfl, rfl⟩
    have hl := run_look_ok (P := Try.prog) (mty := 41) Try.underlying41 Try.underlying3 (k := 24) (MapKept.heap_alloc w (.map doesMap 17)).1 rfl
    have hA := (Below.refl w.heap.size w).alloc (Nat.le_refl _) (.map doesMap 17)
    go_wp2_with fail
    refine (cl45 _ _ _).mono ?_
    rintro e w2 ⟨rfl, hB⟩
    go_wp2
    go_ret2
    exact ⟨rfl, hA.trans (hB.mono (by simp))⟩
  · have hb : (b == 0) = false := by simpa using h0
    go_enter Try.func11, Try.ntmps11
    go_wp2_with fail
    refine (does_any _).mono ?_
    rintro e w1 ⟨rfl, rfl⟩
    have hl := run_look_ok (P := Try.prog) (mty := 41) Try.underlying41 Try.underlying3 (k := 24) (MapKept.heap_alloc w (.map doesMap 17)).1 rfl
    have hA := (Below.refl w.heap.size w).alloc (Nat.le_refl _) (.map doesMap 17)
    go_wp2_with fail
    refine (cl45 _ _ _).mono ?_
    rintro e w2 ⟨rfl, hB⟩
    go_wp2
    go_ret2
    exact ⟨rfl, hA.trans (hB.mono (by simp))⟩
theorem two_25 (a b : Int) (w : World) : Calls Try.prog 11 #[.int .i64 25, .int .i64 a, .int .i64 b] w fun e w' => e = .returned (.tuple #[.int .i64 (ultF a b), .int .i64 0]) ∧ Below w.heap.size w w' := by
  by_cases h0 : b = 0
  · subst h0
    go_enter Try.func11, Try.ntmps11
    go_wp2_with fail
    refine (does_any _).mono ?_
    rintro e w1 ⟨rfl, rfl⟩
    have hl := run_look_ok (P := Try.prog) (mty := 41) Try.underlying41 Try.underlying3 (k := 25) (MapKept.heap_alloc w (.map doesMap 17)).1 rfl
    have hA := (Below.refl w.heap.size w).alloc (Nat.le_refl _) (.map doesMap 17)
    go_wp2_with fail
    refine (cl46 _ _ _).mono ?_
    rintro e w2 ⟨rfl, hB⟩
    go_wp2
    go_ret2
    exact ⟨rfl, hA.trans (hB.mono (by simp))⟩
  · have hb : (b == 0) = false := by simpa using h0
    go_enter Try.func11, Try.ntmps11
    go_wp2_with fail
    refine (does_any _).mono ?_
    rintro e w1 ⟨rfl, rfl⟩
    have hl := run_look_ok (P := Try.prog) (mty := 41) Try.underlying41 Try.underlying3 (k := 25) (MapKept.heap_alloc w (.map doesMap 17)).1 rfl
    have hA := (Below.refl w.heap.size w).alloc (Nat.le_refl _) (.map doesMap 17)
    go_wp2_with fail
    refine (cl46 _ _ _).mono ?_
    rintro e w2 ⟨rfl, hB⟩
    go_wp2
    go_ret2
    exact ⟨rfl, hA.trans (hB.mono (by simp))⟩
theorem two_26 (a b : Int) (w : World) : Calls Try.prog 11 #[.int .i64 26, .int .i64 a, .int .i64 b] w fun e w' => e = .returned (.tuple #[.int .i64 (minF a b), .int .i64 0]) ∧ Below w.heap.size w w' := by
  by_cases h0 : b = 0
  · subst h0
    go_enter Try.func11, Try.ntmps11
    go_wp2_with fail
    refine (does_any _).mono ?_
    rintro e w1 ⟨rfl, rfl⟩
    have hl := run_look_ok (P := Try.prog) (mty := 41) Try.underlying41 Try.underlying3 (k := 26) (MapKept.heap_alloc w (.map doesMap 17)).1 rfl
    have hA := (Below.refl w.heap.size w).alloc (Nat.le_refl _) (.map doesMap 17)
    go_wp2_with fail
    refine (cl47 _ _ _).mono ?_
    rintro e w2 ⟨rfl, hB⟩
    go_wp2
    go_ret2
    exact ⟨rfl, hA.trans (hB.mono (by simp))⟩
  · have hb : (b == 0) = false := by simpa using h0
    go_enter Try.func11, Try.ntmps11
    go_wp2_with fail
    refine (does_any _).mono ?_
    rintro e w1 ⟨rfl, rfl⟩
    have hl := run_look_ok (P := Try.prog) (mty := 41) Try.underlying41 Try.underlying3 (k := 26) (MapKept.heap_alloc w (.map doesMap 17)).1 rfl
    have hA := (Below.refl w.heap.size w).alloc (Nat.le_refl _) (.map doesMap 17)
    go_wp2_with fail
    refine (cl47 _ _ _).mono ?_
    rintro e w2 ⟨rfl, hB⟩
    go_wp2
    go_ret2
    exact ⟨rfl, hA.trans (hB.mono (by simp))⟩
theorem two_27 (a b : Int) (w : World) : Calls Try.prog 11 #[.int .i64 27, .int .i64 a, .int .i64 b] w fun e w' => e = .returned (.tuple #[.int .i64 (maxF a b), .int .i64 0]) ∧ Below w.heap.size w w' := by
  by_cases h0 : b = 0
  · subst h0
    go_enter Try.func11, Try.ntmps11
    go_wp2_with fail
    refine (does_any _).mono ?_
    rintro e w1 ⟨rfl, rfl⟩
    have hl := run_look_ok (P := Try.prog) (mty := 41) Try.underlying41 Try.underlying3 (k := 27) (MapKept.heap_alloc w (.map doesMap 17)).1 rfl
    have hA := (Below.refl w.heap.size w).alloc (Nat.le_refl _) (.map doesMap 17)
    go_wp2_with fail
    refine (cl48 _ _ _).mono ?_
    rintro e w2 ⟨rfl, hB⟩
    go_wp2
    go_ret2
    exact ⟨rfl, hA.trans (hB.mono (by simp))⟩
  · have hb : (b == 0) = false := by simpa using h0
    go_enter Try.func11, Try.ntmps11
    go_wp2_with fail
    refine (does_any _).mono ?_
    rintro e w1 ⟨rfl, rfl⟩
    have hl := run_look_ok (P := Try.prog) (mty := 41) Try.underlying41 Try.underlying3 (k := 27) (MapKept.heap_alloc w (.map doesMap 17)).1 rfl
    have hA := (Below.refl w.heap.size w).alloc (Nat.le_refl _) (.map doesMap 17)
    go_wp2_with fail
    refine (cl48 _ _ _).mono ?_
    rintro e w2 ⟨rfl, hB⟩
    go_wp2
    go_ret2
    exact ⟨rfl, hA.trans (hB.mono (by simp))⟩
end Go.Proofs.Ytbapimbjgfplhaa
