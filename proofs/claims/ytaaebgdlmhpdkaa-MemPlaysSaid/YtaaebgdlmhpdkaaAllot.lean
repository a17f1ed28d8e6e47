/- The walks of mem.Mem's Allot, Align, Comma, CComma, New. Conditions: the memory lies in the heap as MemIs says. -/
import Derived.Test.YtaaebgdlmhpdkaaText
import Derived.Deep.QuietTactic
import Derived.BigQuiet
namespace Go.Proofs.Ytaaebgdlmhpdkaa
open Go.RowKit
theorem MemIs.drew {w : World} {p g : Nat} {bs : List UInt8} {h : Nat} (M : MemIs w p g bs h) : MemIs w.drew p g bs h := ⟨M.own, M.row, M.ne, M.len⟩
def Was (w : World) (p g : Nat) (bs : List UInt8) (h : Nat) (v : Value) (e : Ending) (w' : World) : Prop := e = .returned v ∧ MemIs w' p g bs h ∧ Kept (fun r => r = p ∨ r = g) w w'
theorem MemIs.drewN {w : World} {p g : Nat} {bs : List UInt8} {h : Nat} (M : MemIs w p g bs h) (n : Nat) : MemIs (w.drewN n) p g bs h := ⟨M.own, M.row, M.ne, M.len⟩
theorem Kept.drewN {S : Nat → Prop} {w w' : World} (a : Kept S w w') (n : Nat) : Kept S w (w'.drewN n) := ⟨a.os, a.tape, a.output, a.size, a.block⟩
theorem was_same {w : World} {p g : Nat} {bs : List UInt8} {h : Nat} (M : MemIs w p g bs h) (v : Value) (nq : Nat) : Was w p g bs h v (.returned v) (w.drewN nq) := ⟨rfl, M.drewN nq, (Kept.refl _ w).drewN nq⟩
theorem was_set {w : World} {p g : Nat} {bs : List UInt8} {h : Nat} (M : MemIs w p g bs h) (v : Value) (nq : Nat) (x : Int) (hx : 0 ≤ x) : Was w p g bs x.toNat v (.returned v) ((w.drewN nq).setCell ⟨p, 1, none⟩ (.int .i64 x)) := by
  obtain ⟨k, rfl⟩ := Int.eq_ofNat_of_zero_le hx
  exact ⟨rfl, (M.drewN nq).setHere k, ((Kept.refl _ w).drewN nq).setCell (.inl (.inl rfl)) _⟩
theorem allot_ok {p g : Nat} {bs : List UInt8} {h : Nat} (w : World) (M : MemIs w p g bs h) (hh : h ≤ 65536) (n : Int) (h1 : n ≤ (bs.length : Int) - 512 - h) (h2 : -(h : Int) ≤ n) :
    Calls Try.prog 21 #[.pointer (some ⟨p, 0, none⟩), .int .i64 n] w (Was w p g bs (h + n).toNat (.int .i64 0)) := by
  have c0 := M.slice_
  have c1 := M.here_
  have f1 := M.free_ 1
  have hl := M.len
  have HM := Lib.hid M
  clear M
  go_enter Try.func21, Try.ntmps21
  go_wp2
  go_quiet (fail)
  go_wp2
  all_goals (first | go_ret | skip)
  all_goals exact was_set HM.out _ _ _ (by omega)
theorem allot_no {p g : Nat} {bs : List UInt8} {h : Nat} (w : World) (M : MemIs w p g bs h) (hh : h ≤ 65536) (n : Int) (h1 : ¬ (n ≤ (bs.length : Int) - 512 - h ∧ -(h : Int) ≤ n)) :
    Calls Try.prog 21 #[.pointer (some ⟨p, 0, none⟩), .int .i64 n] w (Was w p g bs h (.int .i64 (-8))) := by
  have c0 := M.slice_
  have c1 := M.here_
  have hl := M.len
  have HM := Lib.hid M
  clear M
  rcases (show (bs.length : Int) - 512 - h < n ∨ (n ≤ (bs.length : Int) - 512 - h ∧ n < -(h : Int)) by omega) with h2 | ⟨h2, h3⟩
  all_goals
    clear h1
    go_enter Try.func21, Try.ntmps21
    go_wp2
    go_quiet (fail)
    go_wp2
    all_goals (first | go_ret | skip)
    all_goals exact was_same HM.out _ _
/-- What Allot answers, and where it leaves Here. -/
def allotE (L h : Nat) (n : Int) : Int := if n ≤ (L : Int) - 512 - h ∧ -(h : Int) ≤ n then 0 else -8
def allotH (L h : Nat) (n : Int) : Nat := if n ≤ (L : Int) - 512 - h ∧ -(h : Int) ≤ n then (h + n).toNat else h
theorem allot_any {p g : Nat} {bs : List UInt8} {h : Nat} (w : World) (M : MemIs w p g bs h) (hh : h ≤ 65536) (n : Int) :
    Calls Try.prog 21 #[.pointer (some ⟨p, 0, none⟩), .int .i64 n] w (Was w p g bs (allotH bs.length h n) (.int .i64 (allotE bs.length h n))) := by
  by_cases hc : n ≤ (bs.length : Int) - 512 - h ∧ -(h : Int) ≤ n
  · unfold allotE allotH; rw [if_pos hc, if_pos hc]; exact allot_ok w M hh n hc.1 hc.2
  · unfold allotE allotH; rw [if_neg hc, if_neg hc]; exact allot_no w M hh n hc
theorem and7 (x : Int) : bits .and .i64 x 7 = x % 8 := by
  show IntKind.i64.wrap ((BitVec.ofInt 64 x &&& BitVec.ofInt 64 7).toNat : Int) = _
  have e : (BitVec.ofInt 64 7).toNat = 2 ^ 3 - 1 := by decide
  rw [BitVec.toNat_and, e, Nat.and_two_pow_sub_one_eq_mod, BitVec.toNat_ofInt, IntWalk.i64_in _ (by omega)]
  omega
theorem align_any {p g : Nat} {bs : List UInt8} {h : Nat} (w : World) (M : MemIs w p g bs h) (hh : h ≤ 65536) :
    Calls Try.prog 24 #[.pointer (some ⟨p, 0, none⟩)] w (Was w p g bs (allotH bs.length h (-(h : Int) % 8)) (.int .i64 (allotE bs.length h (-(h : Int) % 8)))) := by
  have hH := Lib.hid (here_any w M)
  have hA := Lib.hid (allot_any w M hh (-(h : Int) % 8))
  rw [← and7] at hA
  rw [← and7]
  clear M
  go_enter Try.func24, Try.ntmps24
  go_wp2_with fail
  refine hH.out.mono ?_
  rintro e w' ⟨rfl, rfl⟩
  go_wp2_with fail
  refine hA.out.mono ?_
  rintro e w' ⟨rfl, HW⟩
  have HW2 := Lib.hid HW
  clear HW
  go_wp2_with fail
  all_goals (first | (go_ret; exact ⟨rfl, HW2.out⟩) | exact ⟨rfl, HW2.out⟩)
theorem comma_un {p g : Nat} {bs : List UInt8} {h : Nat} (w : World) (M : MemIs w p g bs h) (x : Int) (h1 : ¬ h % 8 = 0) :
    Calls Try.prog 25 #[.pointer (some ⟨p, 0, none⟩), .int .i64 x] w fun e w' => e = .returned (.int .i64 (-23)) ∧ w = w' := by
  have hH := Lib.hid (here_any w M)
  have h2 : ((h : Int) % 8 != 0) = true := by simp; omega
  clear h1 M
  go_enter Try.func25, Try.ntmps25
  go_wp2_with fail
  refine hH.out.mono ?_
  rintro e w' ⟨rfl, rfl⟩
  go_wp2_with fail
  all_goals (first | (go_ret; exact ⟨rfl, rfl⟩) | exact ⟨rfl, rfl⟩)
theorem comma_no {p g : Nat} {bs : List UInt8} {h : Nat} (w : World) (M : MemIs w p g bs h) (hh : h ≤ 65536) (x : Int) (h1 : h % 8 = 0) (h2 : ¬ 8 ≤ (bs.length : Int) - 512 - h) :
    Calls Try.prog 25 #[.pointer (some ⟨p, 0, none⟩), .int .i64 x] w (Was w p g bs h (.int .i64 (-8))) := by
  have hH := Lib.hid (here_any w M)
  have hA := Lib.hid (allot_no w M hh 8 (by omega))
  have h3 : ((h : Int) % 8 != 0) = false := by simp; omega
  clear h1 h2 M
  go_enter Try.func25, Try.ntmps25
  go_wp2_with fail
  refine hH.out.mono ?_
  rintro e w' ⟨rfl, rfl⟩
  go_wp2_with fail
  refine hA.out.mono ?_
  rintro e w' ⟨rfl, HW⟩
  have HW2 := Lib.hid HW
  clear HW
  go_wp2_with fail
  all_goals (first | (go_ret; exact ⟨rfl, HW2.out⟩) | exact ⟨rfl, HW2.out⟩)
theorem comma_ok {p g : Nat} {bs : List UInt8} {h : Nat} (w : World) (M : MemIs w p g bs h) (hh : h ≤ 65536) (x : Int) (h1 : h % 8 = 0) (h2 : 8 ≤ (bs.length : Int) - 512 - h) :
    Calls Try.prog 25 #[.pointer (some ⟨p, 0, none⟩), .int .i64 x] w (Was w p g (putN bs h x 8) (h + 8) (.int .i64 0)) := by
  have hH := Lib.hid (here_any w M)
  have hA := Lib.hid (allot_ok w M hh 8 h2 (by omega))
  have h3 : ((h : Int) % 8 != 0) = false := by simp; omega
  have HF := Lib.hid (show ((h : Int) + 8).toNat = h + 8 by omega)
  have HF1 := Lib.hid (And.intro h1 h2)
  clear h1 h2 M
  go_enter Try.func25, Try.ntmps25
  go_wp2_with fail
  refine hH.out.mono ?_
  rintro e w' ⟨rfl, rfl⟩
  go_wp2_with fail
  refine hA.out.mono ?_
  rintro e w2 ⟨rfl, M2, K2⟩
  rw [HF.out] at M2
  have HM2 := Lib.hid M2
  have HK2 := Lib.hid K2
  clear M2 K2
  go_wp2_with fail
  refine (put_ok w2 HM2.out h x (by omega) (by have := HF1.out; omega) (by have := HF1.out; omega)).mono ?_
  rintro e w3 ⟨rfl, hw3⟩
  have HW := Lib.hid hw3
  clear hw3
  go_wp2_with fail
  all_goals (first | go_ret | skip)
  all_goals (refine ⟨rfl, ?_, ?_⟩ <;> rw [← HW.out])
  · exact HM2.out.setRow _ (putN_length _ _ _ _)
  · exact HK2.out.setRow (.inl (.inr rfl)) _
theorem ccomma_no {p g : Nat} {bs : List UInt8} {h : Nat} (w : World) (M : MemIs w p g bs h) (hh : h ≤ 65536) (c : Int) (h2 : ¬ 1 ≤ (bs.length : Int) - 512 - h) :
    Calls Try.prog 26 #[.pointer (some ⟨p, 0, none⟩), .int .u8 c] w (Was w p g bs h (.int .i64 (-8))) := by
  have hH := Lib.hid (here_any w M)
  have hA := Lib.hid (allot_no w M hh 1 (by omega))
  clear h2 M
  go_enter Try.func26, Try.ntmps26
  go_wp2_with fail
  refine hH.out.mono ?_
  rintro e w' ⟨rfl, rfl⟩
  go_wp2_with fail
  refine hA.out.mono ?_
  rintro e w' ⟨rfl, HW⟩
  have HW2 := Lib.hid HW
  clear HW
  go_wp2_with fail
  all_goals (first | (go_ret; exact ⟨rfl, HW2.out⟩) | exact ⟨rfl, HW2.out⟩)
theorem ccomma_ok {p g : Nat} {bs : List UInt8} {h : Nat} (w : World) (M : MemIs w p g bs h) (hh : h ≤ 65536) (c : UInt8) (h2 : 1 ≤ (bs.length : Int) - 512 - h) :
    Calls Try.prog 26 #[.pointer (some ⟨p, 0, none⟩), bV c] w (Was w p g (fillN bs h c 1) (h + 1) (.int .i64 0)) := by
  have hH := Lib.hid (here_any w M)
  have hA := Lib.hid (allot_ok w M hh 1 h2 (by omega))
  have HF := Lib.hid (show ((h : Int) + 1).toNat = h + 1 by omega)
  have HF1 := Lib.hid h2
  clear h2 M
  have HP := Lib.hid (fun w2 (M2 : MemIs w2 p g bs (h + 1)) => putb_ok w2 M2 h c (by omega) (by have := HF1.out; omega))
  unfold bV at *
  go_enter Try.func26, Try.ntmps26
  go_wp2_with fail
  refine hH.out.mono ?_
  rintro e w' ⟨rfl, rfl⟩
  go_wp2_with fail
  refine hA.out.mono ?_
  rintro e w2 ⟨rfl, M2, K2⟩
  rw [HF.out] at M2
  have HM2 := Lib.hid M2
  have HK2 := Lib.hid K2
  clear M2 K2
  go_wp2_with fail
  refine (HP.out w2 HM2.out).mono ?_
  rintro e w3 ⟨rfl, hw3⟩
  have HW := Lib.hid hw3
  clear hw3
  go_wp2_with fail
  all_goals (first | go_ret | skip)
  all_goals (refine ⟨rfl, ?_, ?_⟩ <;> rw [← HW.out])
  · exact HM2.out.setRow _ (fillN_length _ _ _ _)
  · exact HK2.out.setRow (.inl (.inr rfl)) _
-- a nil memory
theorem size_nil (w : World) : Calls Try.prog 23 #[.pointer none] w fun e w' => e = .returned (.int .i64 0) ∧ w = w' := by
  go_enter Try.func23, Try.ntmps23
  go_wp2
  all_goals (first | (go_ret; exact ⟨rfl, rfl⟩) | exact ⟨rfl, rfl⟩)
theorem here_nil (w : World) : Calls Try.prog 22 #[.pointer none] w fun e w' => e = .returned (.int .i64 0) ∧ w = w' := by
  go_enter Try.func22, Try.ntmps22
  go_wp2
  all_goals (first | (go_ret; exact ⟨rfl, rfl⟩) | exact ⟨rfl, rfl⟩)
theorem allot_nil (w : World) (n : Int) : Calls Try.prog 21 #[.pointer none, .int .i64 n] w fun e w' => e = .returned (.int .i64 2) ∧ w = w' := by
  go_enter Try.func21, Try.ntmps21
  go_wp2
  all_goals (first | (go_ret; exact ⟨rfl, rfl⟩) | exact ⟨rfl, rfl⟩)
theorem piece_nil (w : World) (a n : Int) : Calls Try.prog 30 #[.pointer none, .int .i64 a, .int .i64 n] w fun e w' => e = .returned (.tuple #[.slice none 0 0, .int .i64 2]) ∧ w = w' := by
  go_enter Try.func30, Try.ntmps30
  go_wp2_with (go_at_call 23; refine (size_nil _).mono ?_; rintro e w' ⟨rfl, rfl⟩)
  all_goals (first | (go_ret2; exact ⟨rfl, rfl⟩) | exact ⟨rfl, rfl⟩)
theorem cell_nil (w : World) (a : Int) : Calls Try.prog 31 #[.pointer none, .int .i64 a] w fun e w' => e = .returned (.tuple #[.slice none 0 0, .int .i64 2]) ∧ w = w' := by
  go_enter Try.func31, Try.ntmps31
  go_wp2_with (go_at_call 30; refine (piece_nil _ _ _).mono ?_; rintro e w' ⟨rfl, rfl⟩)
  all_goals (first | (go_ret2; exact ⟨rfl, rfl⟩) | exact ⟨rfl, rfl⟩)
theorem get_nil (w : World) (a : Int) : Calls Try.prog 14 #[.pointer none, .int .i64 a] w fun e w' => e = .returned (.tuple #[.int .i64 0, .int .i64 2]) ∧ w = w' := by
  go_enter Try.func14, Try.ntmps14
  go_wp2_with (go_at_call 31; refine (cell_nil _ _).mono ?_; rintro e w' ⟨rfl, rfl⟩)
  refine wp_loop_rounds 1 ?_
  rw [rounds_succ]
  go_wp2
  go_ret2
  exact ⟨rfl, rfl⟩
theorem put_nil (w : World) (a x : Int) : Calls Try.prog 13 #[.pointer none, .int .i64 a, .int .i64 x] w fun e w' => e = .returned (.int .i64 2) ∧ w = w' := by
  go_enter Try.func13, Try.ntmps13
  go_wp2_with (go_at_call 31; refine (cell_nil _ _).mono ?_; rintro e w' ⟨rfl, rfl⟩)
  refine wp_loop_rounds 1 ?_
  rw [rounds_succ]
  go_wp2
  go_ret
  exact ⟨rfl, rfl⟩
-- a new one
theorem new_no (w : World) (n : Int) (h : n < 1024 ∨ 65536 < n ∨ ¬ n.tmod 8 = 0) : Calls Try.prog 11 #[.int .i64 n] w fun e w' => e = .returned (.tuple #[.pointer none, .int .i64 1]) ∧ w = w' := by
  rcases (show n < 1024 ∨ (1024 ≤ n ∧ 65536 < n) ∨ (1024 ≤ n ∧ n ≤ 65536 ∧ ¬ n.tmod 8 = 0) by omega) with h1 | ⟨h1, h2⟩ | ⟨h1, h2, h3⟩
  · clear h
    go_enter Try.func11, Try.ntmps11
    go_wp2
    all_goals (first | (go_ret2; exact ⟨rfl, rfl⟩) | exact ⟨rfl, rfl⟩)
  · clear h
    go_enter Try.func11, Try.ntmps11
    go_wp2
    all_goals (first | (go_ret2; exact ⟨rfl, rfl⟩) | exact ⟨rfl, rfl⟩)
  · have h4 : (n % 8 != 0) = true := by
      rw [Int.tmod_eq_emod_of_nonneg (by omega)] at h3
      simpa using h3
    clear h h3
    go_enter Try.func11, Try.ntmps11
    go_wp2
    all_goals (first | (go_ret2; exact ⟨rfl, rfl⟩) | exact ⟨rfl, rfl⟩)
theorem info5 : (Try.prog.info? 5).map (fun i => (i.zero, i.size, i.bytes)) = some (some (.int .u8 0), 1, 1) := by kernel_rfl
def zeros (n : Nat) : Array Value := ((List.replicate n (0 : UInt8)).map bV).toArray
theorem zeros_made (n : Nat) : madeCells #[.int .u8 0] n = zeros n := by
  unfold zeros madeCells
  apply Array.ext_getElem?
  intro j
  by_cases hj : j < n
  · simp [hj, bV, Nat.mod_one]
  · simp [hj]
theorem run_make_bytes (w : World) (n : Nat) (h : n ≤ 65536) : (Instr.makeSlice 22 (.int .i64 (n : Int)) (.int .i64 (n : Int))).run Try.prog w = .ok (.slice (some ⟨w.heap.size, 0, none⟩) n n) (w.alloc (.cells (zeros n) 5)) := by
  have h5 := info5
  cases hq : Try.prog.info? 5 with
  | none => rw [hq] at h5; simp at h5
  | some i =>
    rw [hq] at h5
    simp only [Option.map_some, Option.some.injEq, Prod.mk.injEq] at h5
    obtain ⟨z1, z2, z3⟩ := h5
    have hr := run_make (P := Try.prog) w 22 5 i (.int .u8 0) Try.underlying22 hq z1 .i64 .i64 n n (by omega) (by omega) (by rw [z3]; omega) (by omega)
    rw [z2] at hr
    simp only [Int.toNat_natCast, Nat.mul_one] at hr
    have e : madeCells (Value.int .u8 0).cells n = zeros n := zeros_made n
    rw [e] at hr
    exact hr
/-- A new memory of n bytes. -/
def NewMem (w : World) (n : Nat) (e : Ending) (w' : World) : Prop := ∃ p g, e = .returned (.tuple #[.pointer (some ⟨p, 0, none⟩), .int .i64 0]) ∧ w.heap.size ≤ p ∧ w.heap.size ≤ g ∧ MemIs w' p g (List.replicate n 0) 0 ∧ Kept (fun _ => False) w w'
theorem newMem (w : World) (n : Nat) (h : n ≤ 65536) : NewMem w n (.returned (.tuple #[.pointer (some ⟨w.heap.size + 1, 0, none⟩), .int .i64 0])) ((w.alloc (.cells (zeros n) 5)).alloc (.cells #[.slice (some ⟨w.heap.size, 0, none⟩) n n, .int .i64 0] 69)) := by
  refine ⟨w.heap.size + 1, w.heap.size, rfl, by omega, by omega, ⟨?_, ?_, by omega, by simpa using h⟩, ((Kept.refl _ w).alloc _).alloc _⟩
  · have := (MapKept.heap_alloc (w.alloc (.cells (zeros n) 5)) (.cells #[.slice (some ⟨w.heap.size, 0, none⟩) n n, .int .i64 0] 69)).1
    simpa using this
  · rw [(MapKept.heap_alloc (w.alloc (.cells (zeros n) 5)) _).2 _ (by simp)]
    exact (MapKept.heap_alloc w _).1
theorem new_ok (w : World) (n : Nat) (h1 : 1024 ≤ n) (h2 : n ≤ 65536) (h3 : n % 8 = 0) : Calls Try.prog 11 #[.int .i64 (n : Int)] w (NewMem w n) := by
  have h4 : ((n : Int) % 8 != 0) = false := by simp; omega
  have hmk := run_make_bytes w n h2
  have HN := Lib.hid (newMem w n h2)
  go_enter Try.func11, Try.ntmps11
  go_wp2
  all_goals (first | go_ret2 | skip)
  all_goals exact HN.out
end Go.Proofs.Ytaaebgdlmhpdkaa
