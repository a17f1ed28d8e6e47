/- The walk of MemMoves: for any bytes and any places it returns true and changes nothing that was there. -/
import Derived.Test.YtaaebgdlmhpdkaaFacts
import Derived.Deep.QuietTactic
import Derived.BigQuiet
namespace Go.Proofs.Ytaaebgdlmhpdkaa
open Go.RowKit
theorem quiet_left {P : Program} {f : FuncId} {args : Array Value} {w : World} {n : Nat} {v : Value}
    (h : Calls P f args (w.drewN n) fun e w' => e = .returned v ∧ w.drewN n = w') : Calls P f args (w.drewN n) fun e w'' => e = .returned v ∧ ∃ m, w'' = w.drewN m :=
  h.mono fun _ _ ⟨he, hm⟩ => ⟨he, n, hm.symm⟩
theorem below_drewN {B : Nat} {a w : World} (h : Below B a w) (n : Nat) : Below B a (w.drewN n) := ⟨h.os, h.tape, h.output, h.size, h.block⟩
theorem bytes_ext {a b : ByteArray} (h : a.data.toList = b.data.toList) : a = b := by
  obtain ⟨a⟩ := a
  obtain ⟨b⟩ := b
  have : a = b := Array.toList_inj.1 h
  rw [this]
theorem moved_text (bs : List UInt8) (f t n : Nat) (T U : ByteArray) (hl : bs.length = 1024) (hf : f + n ≤ 1024) (ht : t + n ≤ 1024) (hT : strOf bs = .string T) (hU : strOf (spliceB bs t (seg bs f n)) = .string U) :
    (U.toList == (T.extract 0 t ++ T.extract f (f + n) ++ T.extract (t + n) 1024).toList) = true := by
  have e : U = T.extract 0 t ++ T.extract f (f + n) ++ T.extract (t + n) 1024 := by
    apply bytes_ext
    rw [strOf_data hU]
    have hT2 := strOf_data hT
    simp only [ByteArray.data_append, ByteArray.data_extract, Array.toList_append, Array.toList_extract, hT2, List.extract_eq_take_drop]
    unfold spliceB
    rw [seg_length _ _ _ (by omega)]
    unfold seg
    have e1 : List.take (1024 - (t + n)) (List.drop (t + n) bs) = List.drop (t + n) bs := List.take_of_length_le (by rw [List.length_drop]; omega)
    rw [e1, Nat.sub_zero, List.drop_zero, show f + n - f = n by omega]
  rw [e]; simp
set_option maxHeartbeats 2000000 in
set_option maxRecDepth 100000 in
theorem walk_MemMoves (a : Option Addr) (len cap : Nat) (zs : List Int) (fr to many : Int) (W : World) (R : RowIn .u8 W a len cap zs) (hf : (Lit.int .u16 fr).wf = true) (ht : (Lit.int .u16 to).wf = true) (hm : (Lit.int .u16 many).wf = true) :
    Calls Try.prog 5 #[.slice a len cap, .int .u16 fr, .int .u16 to, .int .u16 many] W fun e w' => e = .returned (.bool true) ∧ Below W.heap.size W w' := by
  have hB := Below.refl W.heap.size W
  obtain ⟨f1, f2⟩ := wf_u16 hf
  obtain ⟨t1, t2⟩ := wf_u16 ht
  obtain ⟨m1, m2⟩ := wf_u16 hm
  obtain ⟨l1, l2⟩ := row_le R
  have HR := Lib.hid R
  clear R hf ht hm
  go_enter Try.func5, Try.ntmps5
  try simp only [List.append]
  go_wp2_with fail
  refine (shown_ok W _ hB).mono ?_
  clear hB
  rintro e w1 ⟨rfl, hB⟩
  go_wp2_with fail
  refine (own_new hB 1024 (by omega) (by omega) (by omega)).mono ?_
  rintro e w2 ⟨p, g, rfl, O⟩
  rcases Nat.lt_or_ge 500 len with hlt | hge
  · obtain ⟨s, hs, hcv⟩ := row_text O.below HR.out 500 (by omega)
    have hs2 : s.size ≤ 500 := by omega
    have a1 : 0 ≤ fr % 512 := by omega
    have a2 : fr % 512 ≤ 511 := by omega
    have b1 : 0 ≤ to % 512 := by omega
    have b2 : to % 512 ≤ 511 := by omega
    have c1 : 0 ≤ many % 512 := by omega
    have c2 : many % 512 ≤ 511 := by omega
    have HS := Lib.hid hs
    clear hs
    go_wp2_with fail
    obtain ⟨f, hf⟩ := Int.eq_ofNat_of_zero_le a1
    obtain ⟨t, ht⟩ := Int.eq_ofNat_of_zero_le b1
    obtain ⟨n, hn⟩ := Int.eq_ofNat_of_zero_le c1
    rw [hf] at a1 a2 ⊢
    rw [ht] at b1 b2 ⊢
    rw [hn] at c1 c2 ⊢
    clear hf ht hn f1 f2 t1 t2 m1 m2
    refine (own_write O 100 s (by omega) (by rw [zbs_length]; omega)).mono ?_
    rintro e w3 ⟨rfl, O3⟩
    have hb3 := Lib.hid (show (spliceB (zbs 1024) (100 : Int).toNat s.data.toList).length = 1024 by rw [spliceB_length _ _ _ (by rw [zbs_length, str_len]; omega), zbs_length])
    generalize spliceB (zbs 1024) (100 : Int).toNat s.data.toList = bs at *
    go_wp2_with fail
    refine (all_any w3 O3.mem).mono ?_
    rintro e w4 ⟨rfl, rfl⟩
    obtain ⟨T, hT⟩ : ∃ T : ByteArray, strOf bs = .string T := ⟨_, rfl⟩
    rw [hT]
    have hts : T.size = 1024 := by rw [strOf_size hT, hb3.out]
    go_wp2_with fail
    refine (own_move O3 f t n (by omega) (by omega) (by rw [hb3.out]; omega) (by omega) (by rw [hb3.out]; omega)).mono ?_
    rintro e w5 ⟨rfl, O5⟩
    obtain ⟨U, hU⟩ : ∃ U : ByteArray, strOf (spliceB bs (t : Int).toNat (seg bs (f : Int).toNat (n : Int).toNat)) = .string U := ⟨_, rfl⟩
    have HA := Lib.hid (fun m => all_any (w5.drewN m) (O5.mem.drewN m))
    rw [hU] at HA
    have HB := Lib.hid O5.below
    have HQ := Lib.hid (moved_text bs f t n T U hb3.out (by omega) (by omega) hT hU)
    clear hU hT
    go_wp2_with fail
    go_quiet ((go_at_call 15; exact quiet_left (HA.out _)))
    go_wp2_with fail
    all_goals (first | go_ret | skip)
    refine ⟨?_, below_drewN HB.out _⟩
    show Ending.returned (.bool (U.toList == (T.extract 0 t ++ T.extract f (f + n) ++ T.extract (t + n) 1024).toList)) = _
    rw [HQ.out]
  · obtain ⟨s, hs, hcv⟩ := row_text O.below HR.out len (by omega)
    have hs2 : s.size ≤ 500 := by omega
    have a1 : 0 ≤ fr % 512 := by omega
    have a2 : fr % 512 ≤ 511 := by omega
    have b1 : 0 ≤ to % 512 := by omega
    have b2 : to % 512 ≤ 511 := by omega
    have c1 : 0 ≤ many % 512 := by omega
    have c2 : many % 512 ≤ 511 := by omega
    have HS := Lib.hid hs
    clear hs
    go_wp2_with fail
    obtain ⟨f, hf⟩ := Int.eq_ofNat_of_zero_le a1
    obtain ⟨t, ht⟩ := Int.eq_ofNat_of_zero_le b1
    obtain ⟨n, hn⟩ := Int.eq_ofNat_of_zero_le c1
    rw [hf] at a1 a2 ⊢
    rw [ht] at b1 b2 ⊢
    rw [hn] at c1 c2 ⊢
    clear hf ht hn f1 f2 t1 t2 m1 m2
    refine (own_write O 100 s (by omega) (by rw [zbs_length]; omega)).mono ?_
    rintro e w3 ⟨rfl, O3⟩
    have hb3 := Lib.hid (show (spliceB (zbs 1024) (100 : Int).toNat s.data.toList).length = 1024 by rw [spliceB_length _ _ _ (by rw [zbs_length, str_len]; omega), zbs_length])
    generalize spliceB (zbs 1024) (100 : Int).toNat s.data.toList = bs at *
    go_wp2_with fail
    refine (all_any w3 O3.mem).mono ?_
    rintro e w4 ⟨rfl, rfl⟩
    obtain ⟨T, hT⟩ : ∃ T : ByteArray, strOf bs = .string T := ⟨_, rfl⟩
    rw [hT]
    have hts : T.size = 1024 := by rw [strOf_size hT, hb3.out]
    go_wp2_with fail
    refine (own_move O3 f t n (by omega) (by omega) (by rw [hb3.out]; omega) (by omega) (by rw [hb3.out]; omega)).mono ?_
    rintro e w5 ⟨rfl, O5⟩
    obtain ⟨U, hU⟩ : ∃ U : ByteArray, strOf (spliceB bs (t : Int).toNat (seg bs (f : Int).toNat (n : Int).toNat)) = .string U := ⟨_, rfl⟩
    have HA := Lib.hid (fun m => all_any (w5.drewN m) (O5.mem.drewN m))
    rw [hU] at HA
    have HB := Lib.hid O5.below
    have HQ := Lib.hid (moved_text bs f t n T U hb3.out (by omega) (by omega) hT hU)
    clear hU hT
    go_wp2_with fail
    go_quiet ((go_at_call 15; exact quiet_left (HA.out _)))
    go_wp2_with fail
    all_goals (first | go_ret | skip)
    refine ⟨?_, below_drewN HB.out _⟩
    show Ending.returned (.bool (U.toList == (T.extract 0 t ++ T.extract f (f + n) ++ T.extract (t + n) 1024).toList)) = _
    rw [HQ.out]
end Go.Proofs.Ytaaebgdlmhpdkaa
