/- The walks of the reference's Move, Allot, Align, Comma, CComma, New. Conditions: it lies in the heap as RefIs says. -/
import Derived.Test.YtaaebgdlmhpdkaaRefText
namespace Go.Proofs.Ytaaebgdlmhpdkaa
open Go.RowKit
theorem RWas.of_row {w w' : World} {p g : Nat} {bs cs : List UInt8} {h : Nat} {v : Value} {e : Ending} (M : RefIs w p g bs h) (hl : cs.length = bs.length) (H : e = .returned v ∧ w.setRow g (cs.map bV).toArray = w') : RWas w p g cs h v e w' :=
  ⟨H.1, by rw [← H.2]; exact M.setRow cs hl, by rw [← H.2]; exact (Kept.refl _ w).setRow (.inl (.inr rfl)) _⟩
theorem RWas.of_same {w w' : World} {p g : Nat} {bs : List UInt8} {h : Nat} {v : Value} {e : Ending} (M : RefIs w p g bs h) (H : e = .returned v ∧ w = w') : RWas w p g bs h v e w' :=
  ⟨H.1, by rw [← H.2]; exact M, by rw [← H.2]; exact Kept.refl _ w⟩
theorem rmove_ok {p g : Nat} {bs : List UInt8} {h : Nat} (w : World) (M : RefIs w p g bs h) (f t n : Int) (h1 : 0 ≤ f) (h2 : 0 ≤ n) (h3 : f + n ≤ bs.length) (h4 : 0 ≤ t) (h5 : t + n ≤ bs.length) :
    Calls Try.prog 39 #[.pointer (some ⟨p, 0, none⟩), .int .i64 f, .int .i64 t, .int .i64 n] w (RWas w p g (spliceB bs t.toNat (seg bs f.toNat n.toNat)) h (.int .i64 0)) := by
  have hT := Lib.hid (rtext_ok w M f n h1 h2 h3)
  have hsl := seg_length bs f.toNat n.toNat (by omega)
  obtain ⟨s, hs⟩ : ∃ s : ByteArray, strOf (seg bs f.toNat n.toNat) = .string s := ⟨_, rfl⟩
  have hd := strOf_data hs
  have hz := strOf_size hs
  rw [hsl] at hz
  rw [hs] at hT
  rw [← hd]
  have hW := Lib.hid (rwrite_ok w M t s h4 (by omega))
  clear hs hd hz M
  go_enter Try.func39, Try.ntmps39
  go_wp2_with fail
  refine hT.out.mono ?_
  rintro e w' ⟨rfl, rfl⟩
  go_wp2_with fail
  refine hW.out.mono ?_
  rintro e w' ⟨rfl, M2, K2⟩
  have HM2 := Lib.hid M2
  have HK2 := Lib.hid K2
  clear M2 K2
  go_wp2_with fail
  all_goals (first | go_ret | skip)
  all_goals exact ⟨rfl, HM2.out, HK2.out⟩
theorem rmove_no1 {p g : Nat} {bs : List UInt8} {h : Nat} (w : World) (M : RefIs w p g bs h) (f t n : Int) (h1 : ¬ (0 ≤ f ∧ f ≤ bs.length ∧ 0 ≤ n ∧ n ≤ bs.length - f)) :
    Calls Try.prog 39 #[.pointer (some ⟨p, 0, none⟩), .int .i64 f, .int .i64 t, .int .i64 n] w fun e w' => e = .returned (.int .i64 (-9)) ∧ w = w' := by
  have hT := Lib.hid (rtext_no w M f n h1)
  obtain ⟨s, hs⟩ : ∃ s : ByteArray, strOf [] = .string s := ⟨_, rfl⟩
  rw [hs] at hT
  clear hs M h1
  go_enter Try.func39, Try.ntmps39
  go_wp2_with fail
  refine hT.out.mono ?_
  rintro e w' ⟨rfl, rfl⟩
  go_wp2_with fail
  all_goals (first | (go_ret; exact ⟨rfl, rfl⟩) | exact ⟨rfl, rfl⟩)
theorem rmove_no2 {p g : Nat} {bs : List UInt8} {h : Nat} (w : World) (M : RefIs w p g bs h) (f t n : Int) (h1 : 0 ≤ f) (h2 : 0 ≤ n) (h3 : f + n ≤ bs.length) (h4 : ¬ (0 ≤ t ∧ t ≤ bs.length ∧ 0 ≤ n ∧ n ≤ bs.length - t)) :
    Calls Try.prog 39 #[.pointer (some ⟨p, 0, none⟩), .int .i64 f, .int .i64 t, .int .i64 n] w fun e w' => e = .returned (.int .i64 (-9)) ∧ w = w' := by
  have hT := Lib.hid (rtext_ok w M f n h1 h2 h3)
  have hsl := seg_length bs f.toNat n.toNat (by omega)
  have hl := M.len
  obtain ⟨s, hs⟩ : ∃ s : ByteArray, strOf (seg bs f.toNat n.toNat) = .string s := ⟨_, rfl⟩
  have hz := strOf_size hs
  rw [hsl] at hz
  rw [hs] at hT
  have hW := Lib.hid (rwrite_no w M t s (by omega) (by omega))
  clear hs hz M h4
  go_enter Try.func39, Try.ntmps39
  go_wp2_with fail
  refine hT.out.mono ?_
  rintro e w' ⟨rfl, rfl⟩
  go_wp2_with fail
  refine hW.out.mono ?_
  rintro e w' ⟨rfl, rfl⟩
  go_wp2_with fail
  all_goals (first | (go_ret; exact ⟨rfl, rfl⟩) | exact ⟨rfl, rfl⟩)
theorem rwas_same {w : World} {p g : Nat} {bs : List UInt8} {h : Nat} (M : RefIs w p g bs h) (v : Value) : RWas w p g bs h v (.returned v) w := ⟨rfl, M, Kept.refl _ w⟩
theorem rwas_set {w : World} {p g : Nat} {bs : List UInt8} {h : Nat} (M : RefIs w p g bs h) (v : Value) (x : Int) (hx : 0 ≤ x) : RWas w p g bs x.toNat v (.returned v) (w.setCell ⟨p, 1, none⟩ (.int .i64 x)) := by
  obtain ⟨k, rfl⟩ := Int.eq_ofNat_of_zero_le hx
  exact ⟨rfl, M.setHere k, (Kept.refl _ w).setCell (.inl (.inl rfl)) _⟩
theorem rallot_ok {p g : Nat} {bs : List UInt8} {h : Nat} (w : World) (M : RefIs w p g bs h) (hh : h ≤ 65536) (n : Int) (h1 : n ≤ (bs.length : Int) - 512 - h) (h2 : -(h : Int) ≤ n) :
    Calls Try.prog 40 #[.pointer (some ⟨p, 0, none⟩), .int .i64 n] w (RWas w p g bs (h + n).toNat (.int .i64 0)) := by
  have c0 := M.slice_
  have c1 := M.here_
  have f1 := M.free_ 1
  have hl := M.len
  have HM := Lib.hid M
  clear M
  go_enter Try.func40, Try.ntmps40
  go_wp2
  all_goals (first | go_ret | skip)
  all_goals exact rwas_set HM.out _ _ (by omega)
theorem rallot_no {p g : Nat} {bs : List UInt8} {h : Nat} (w : World) (M : RefIs w p g bs h) (hh : h ≤ 65536) (n : Int) (h1 : ¬ (n ≤ (bs.length : Int) - 512 - h ∧ -(h : Int) ≤ n)) :
    Calls Try.prog 40 #[.pointer (some ⟨p, 0, none⟩), .int .i64 n] w (RWas w p g bs h (.int .i64 (-8))) := by
  have c0 := M.slice_
  have c1 := M.here_
  have hl := M.len
  have HM := Lib.hid M
  clear M
  rcases (show n < -(h : Int) ∨ (-(h : Int) ≤ n ∧ (bs.length : Int) - 512 - h < n) by omega) with h2 | ⟨h2, h3⟩
  all_goals
    clear h1
    go_enter Try.func40, Try.ntmps40
    go_wp2
    all_goals (first | go_ret | skip)
    all_goals exact rwas_same HM.out _
theorem rallot_any {p g : Nat} {bs : List UInt8} {h : Nat} (w : World) (M : RefIs w p g bs h) (hh : h ≤ 65536) (n : Int) :
    Calls Try.prog 40 #[.pointer (some ⟨p, 0, none⟩), .int .i64 n] w (RWas w p g bs (allotH bs.length h n) (.int .i64 (allotE bs.length h n))) := by
  by_cases hc : n ≤ (bs.length : Int) - 512 - h ∧ -(h : Int) ≤ n
  · unfold allotE allotH; rw [if_pos hc, if_pos hc]; exact rallot_ok w M hh n hc.1 hc.2
  · unfold allotE allotH; rw [if_neg hc, if_neg hc]; exact rallot_no w M hh n hc
theorem ralign_any {p g : Nat} {bs : List UInt8} {h : Nat} (w : World) (M : RefIs w p g bs h) (hh : h ≤ 65536) :
    Calls Try.prog 41 #[.pointer (some ⟨p, 0, none⟩)] w (RWas w p g bs (allotH bs.length h (-(h : Int) % 8)) (.int .i64 (allotE bs.length h (-(h : Int) % 8)))) := by
  have hA := Lib.hid (rallot_any w M hh (-(h : Int) % 8))
  have HE := Lib.hid (show -((h : Int) % 8) % 8 = -(h : Int) % 8 by omega)
  rw [← HE.out] at hA ⊢
  clear HE
  have c1 := M.here_
  generalize allotH bs.length h (-((h : Int) % 8) % 8) = h2 at *
  generalize allotE bs.length h (-((h : Int) % 8) % 8) = e2 at *
  clear M
  go_enter Try.func41, Try.ntmps41
  go_wp2_with fail
  refine hA.out.mono ?_
  rintro e w' ⟨rfl, M2, K2⟩
  have HM2 := Lib.hid M2
  have HK2 := Lib.hid K2
  clear M2 K2
  go_wp2_with fail
  all_goals (first | go_ret | skip)
  all_goals exact ⟨rfl, HM2.out, HK2.out⟩
theorem rcomma_un {p g : Nat} {bs : List UInt8} {h : Nat} (w : World) (M : RefIs w p g bs h) (x : Int) (h1 : ¬ h % 8 = 0) :
    Calls Try.prog 42 #[.pointer (some ⟨p, 0, none⟩), .int .i64 x] w fun e w' => e = .returned (.int .i64 (-23)) ∧ w = w' := by
  have c1 := M.here_
  have h2 : ((h : Int) % 8 != 0) = true := by simp; omega
  clear M
  go_enter Try.func42, Try.ntmps42
  go_wp2_with fail
  all_goals (first | (go_ret; exact ⟨rfl, rfl⟩) | exact ⟨rfl, rfl⟩)
theorem rcomma_no {p g : Nat} {bs : List UInt8} {h : Nat} (w : World) (M : RefIs w p g bs h) (hh : h ≤ 65536) (x : Int) (h1 : h % 8 = 0) (h2 : ¬ 8 ≤ (bs.length : Int) - 512 - h) :
    Calls Try.prog 42 #[.pointer (some ⟨p, 0, none⟩), .int .i64 x] w (RWas w p g bs h (.int .i64 (-8))) := by
  have hA := Lib.hid (rallot_no w M hh 8 (by omega))
  have c1 := M.here_
  have h3 : ((h : Int) % 8 != 0) = false := by simp; omega
  clear M h2 h1
  go_enter Try.func42, Try.ntmps42
  go_wp2_with fail
  refine hA.out.mono ?_
  rintro e w' ⟨rfl, M2, K2⟩
  have HM2 := Lib.hid M2
  have HK2 := Lib.hid K2
  clear M2 K2
  go_wp2_with fail
  all_goals (first | go_ret | skip)
  all_goals exact ⟨rfl, HM2.out, HK2.out⟩
theorem rcomma_ok {p g : Nat} {bs : List UInt8} {h : Nat} (w : World) (M : RefIs w p g bs h) (hh : h ≤ 65536) (x : Int) (h1 : h % 8 = 0) (h2 : 8 ≤ (bs.length : Int) - 512 - h) :
    Calls Try.prog 42 #[.pointer (some ⟨p, 0, none⟩), .int .i64 x] w (RWas w p g (putN bs h x 8) (h + 8) (.int .i64 0)) := by
  have hA := Lib.hid (rallot_ok w M hh 8 h2 (by omega))
  have c1 := M.here_
  have h3 : ((h : Int) % 8 != 0) = false := by simp; omega
  have HF := Lib.hid (show ((h : Int) + 8).toNat = h + 8 by omega)
  have HP := Lib.hid (fun w2 (M2 : RefIs w2 p g bs (h + 8)) => rput_ok w2 M2 h x (by omega) (by omega) (by omega))
  clear h1 h2 M
  go_enter Try.func42, Try.ntmps42
  go_wp2_with fail
  refine hA.out.mono ?_
  rintro e w2 ⟨rfl, M2, K2⟩
  rw [HF.out] at M2
  have HM2 := Lib.hid M2
  have HK2 := Lib.hid K2
  clear M2 K2
  go_wp2_with fail
  refine (HP.out w2 HM2.out).mono ?_
  rintro e w3 ⟨rfl, hw3⟩
  have HW := Lib.hid hw3
  clear hw3
  go_wp2_with fail
  all_goals (first | go_ret | skip)
  all_goals (refine ⟨rfl, ?_, ?_⟩ <;> rw [← HW.out])
  · exact HM2.out.setRow _ (putN_length _ _ _ _)
  · exact HK2.out.setRow (.inl (.inr rfl)) _
theorem rccomma_no {p g : Nat} {bs : List UInt8} {h : Nat} (w : World) (M : RefIs w p g bs h) (hh : h ≤ 65536) (c : Int) (h2 : ¬ 1 ≤ (bs.length : Int) - 512 - h) :
    Calls Try.prog 43 #[.pointer (some ⟨p, 0, none⟩), .int .u8 c] w (RWas w p g bs h (.int .i64 (-8))) := by
  have hA := Lib.hid (rallot_no w M hh 1 (by omega))
  have c1 := M.here_
  clear M h2
  go_enter Try.func43, Try.ntmps43
  go_wp2_with fail
  refine hA.out.mono ?_
  rintro e w' ⟨rfl, M2, K2⟩
  have HM2 := Lib.hid M2
  have HK2 := Lib.hid K2
  clear M2 K2
  go_wp2_with fail
  all_goals (first | go_ret | skip)
  all_goals exact ⟨rfl, HM2.out, HK2.out⟩
theorem rccomma_ok {p g : Nat} {bs : List UInt8} {h : Nat} (w : World) (M : RefIs w p g bs h) (hh : h ≤ 65536) (c : UInt8) (h2 : 1 ≤ (bs.length : Int) - 512 - h) :
    Calls Try.prog 43 #[.pointer (some ⟨p, 0, none⟩), bV c] w (RWas w p g (fillN bs h c 1) (h + 1) (.int .i64 0)) := by
  have hA := Lib.hid (rallot_ok w M hh 1 h2 (by omega))
  have c1 := M.here_
  have HF := Lib.hid (show ((h : Int) + 1).toNat = h + 1 by omega)
  have HP := Lib.hid (fun w2 (M2 : RefIs w2 p g bs (h + 1)) => rputb_ok w2 M2 h c (by omega) (by omega))
  clear h2 M
  unfold bV at *
  go_enter Try.func43, Try.ntmps43
  go_wp2_with fail
  refine hA.out.mono ?_
  rintro e w2 ⟨rfl, M2, K2⟩
  rw [HF.out] at M2
  have HM2 := Lib.hid M2
  have HK2 := Lib.hid K2
  clear M2 K2
  go_wp2_with fail
  refine (HP.out w2 HM2.out).mono ?_
  rintro e w3 ⟨rfl, hw3⟩
  have HW := Lib.hid hw3
  clear hw3
  go_wp2_with fail
  all_goals (first | go_ret | skip)
  all_goals (refine ⟨rfl, ?_, ?_⟩ <;> rw [← HW.out])
  · exact HM2.out.setRow _ (fillN_length _ _ _ _)
  · exact HK2.out.setRow (.inl (.inr rfl)) _
-- a new one
theorem rnew_no (w : World) (n : Int) (h : n < 1024 ∨ 65536 < n ∨ ¬ n.tmod 8 = 0) : Calls Try.prog 27 #[.int .i64 n] w fun e w' => e = .returned (.tuple #[.pointer none, .int .i64 1]) ∧ w = w' := by
  rcases (show n < 1024 ∨ (1024 ≤ n ∧ 65536 < n) ∨ (1024 ≤ n ∧ n ≤ 65536 ∧ ¬ n.tmod 8 = 0) by omega) with h1 | ⟨h1, h2⟩ | ⟨h1, h2, h3⟩
  · clear h
    go_enter Try.func27, Try.ntmps27
    go_wp2
    all_goals (first | (go_ret2; exact ⟨rfl, rfl⟩) | exact ⟨rfl, rfl⟩)
  · clear h
    go_enter Try.func27, Try.ntmps27
    go_wp2
    all_goals (first | (go_ret2; exact ⟨rfl, rfl⟩) | exact ⟨rfl, rfl⟩)
  · have h4 : (n % 8 != 0) = true := by
      rw [Int.tmod_eq_emod_of_nonneg (by omega)] at h3
      simpa using h3
    clear h h3
    go_enter Try.func27, Try.ntmps27
    go_wp2
    all_goals (first | (go_ret2; exact ⟨rfl, rfl⟩) | exact ⟨rfl, rfl⟩)
def RNew (w : World) (n : Nat) (e : Ending) (w' : World) : Prop := ∃ p g, e = .returned (.tuple #[.pointer (some ⟨p, 0, none⟩), .int .i64 0]) ∧ w.heap.size ≤ p ∧ w.heap.size ≤ g ∧ RefIs w' p g (List.replicate n 0) 0 ∧ Kept (fun _ => False) w w'
theorem rNew (w : World) (n : Nat) (h : n ≤ 65536) : RNew w n (.returned (.tuple #[.pointer (some ⟨w.heap.size + 1, 0, none⟩), .int .i64 0])) ((w.alloc (.cells (zeros n) 5)).alloc (.cells #[.slice (some ⟨w.heap.size, 0, none⟩) n n, .int .i64 0] 66)) := by
  refine ⟨w.heap.size + 1, w.heap.size, rfl, by omega, by omega, ⟨?_, ?_, by omega, by simpa using h⟩, ((Kept.refl _ w).alloc _).alloc _⟩
  · have := (MapKept.heap_alloc (w.alloc (.cells (zeros n) 5)) (.cells #[.slice (some ⟨w.heap.size, 0, none⟩) n n, .int .i64 0] 66)).1
    simpa using this
  · rw [(MapKept.heap_alloc (w.alloc (.cells (zeros n) 5)) _).2 _ (by simp)]
    exact (MapKept.heap_alloc w _).1
theorem rnew_ok (w : World) (n : Nat) (h1 : 1024 ≤ n) (h2 : n ≤ 65536) (h3 : n % 8 = 0) : Calls Try.prog 27 #[.int .i64 (n : Int)] w (RNew w n) := by
  have h4 : ((n : Int) % 8 != 0) = false := by simp; omega
  have hmk := run_make_bytes w n h2
  have HN := Lib.hid (rNew w n h2)
  go_enter Try.func27, Try.ntmps27
  go_wp2
  all_goals (first | go_ret2 | skip)
  all_goals exact HN.out
end Go.Proofs.Ytaaebgdlmhpdkaa
