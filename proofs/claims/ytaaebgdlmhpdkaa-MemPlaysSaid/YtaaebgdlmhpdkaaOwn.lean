/- A memory that the law itself has made, threaded through its calls: each call of mem.Mem's leaves it a memory (Owns), says what it answers, and changes nothing that was there before the law began. -/
import Derived.Test.YtaaebgdlmhpdkaaAllot
namespace Go.Proofs.Ytaaebgdlmhpdkaa
open Go.RowKit
structure Owns (W w : World) (p g : Nat) (bs : List UInt8) (h : Nat) : Prop where
  mem : MemIs w p g bs h
  below : Below W.heap.size W w
  pge : W.heap.size ≤ p
  gge : W.heap.size ≤ g
def zbs (n : Nat) : List UInt8 := List.replicate n 0
theorem zbs_length (n : Nat) : (zbs n).length = n := List.length_replicate
section
variable {W w w' : World} {p g : Nat} {bs : List UInt8} {h : Nat}
theorem Owns.row (O : Owns W w p g bs h) (cs : List UInt8) (hl : cs.length = bs.length) : Owns W (w.setRow g (cs.map bV).toArray) p g cs h :=
  ⟨O.mem.setRow cs hl, ((Kept.refl (fun r => r = g) w).setRow (.inl rfl) _).below O.below O.below.size (fun r hr => by rw [hr]; exact O.gge), O.pge, O.gge⟩
theorem Owns.was (O : Owns W w p g bs h) {cs : List UInt8} {k : Nat} {v : Value} {e : Ending} (H : Was w p g cs k v e w') : e = .returned v ∧ Owns W w' p g cs k :=
  ⟨H.1, H.2.1, H.2.2.below O.below O.below.size (fun r hr => by rcases hr with rfl | rfl; exact O.pge; exact O.gge), O.pge, O.gge⟩
theorem own_new (hB : Below W.heap.size W w) (n : Nat) (h1 : 1024 ≤ n) (h2 : n ≤ 65536) (h3 : n % 8 = 0) :
    Calls Try.prog 11 #[.int .i64 (n : Int)] w fun e w' => ∃ p g, e = .returned (.tuple #[.pointer (some ⟨p, 0, none⟩), .int .i64 0]) ∧ Owns W w' p g (zbs n) 0 :=
  (new_ok w n h1 h2 h3).mono fun _ _ ⟨p, g, he, hp, hg, hm, hk⟩ => ⟨p, g, he, hm, hk.below hB hB.size (fun _ h => h.elim), Nat.le_trans hB.size hp, Nat.le_trans hB.size hg⟩
theorem own_put (O : Owns W w p g bs h) (a x : Int) (h1 : 0 ≤ a) (h2 : a + 8 ≤ bs.length) (h3 : a % 8 = 0) :
    Calls Try.prog 13 #[.pointer (some ⟨p, 0, none⟩), .int .i64 a, .int .i64 x] w fun e w' => e = .returned (.int .i64 0) ∧ Owns W w' p g (putN bs a.toNat x 8) h :=
  (put_ok w O.mem a x h1 h2 h3).mono fun _ _ ⟨he, hw⟩ => ⟨he, by rw [← hw]; exact O.row _ (putN_length _ _ _ _)⟩
theorem own_fill (O : Owns W w p g bs h) (a n : Int) (c : UInt8) (h1 : 0 ≤ a) (h2 : 0 ≤ n) (h3 : a + n ≤ bs.length) :
    Calls Try.prog 18 #[.pointer (some ⟨p, 0, none⟩), .int .i64 a, .int .i64 n, bV c] w fun e w' => e = .returned (.int .i64 0) ∧ Owns W w' p g (fillN bs a.toNat c n.toNat) h :=
  (fill_ok w O.mem a n c h1 h2 h3).mono fun _ _ ⟨he, hw⟩ => ⟨he, by rw [← hw]; exact O.row _ (fillN_length _ _ _ _)⟩
theorem own_putb (O : Owns W w p g bs h) (a : Int) (c : UInt8) (h1 : 0 ≤ a) (h2 : a < bs.length) :
    Calls Try.prog 20 #[.pointer (some ⟨p, 0, none⟩), .int .i64 a, bV c] w fun e w' => e = .returned (.int .i64 0) ∧ Owns W w' p g (fillN bs a.toNat c 1) h :=
  (putb_ok w O.mem a c h1 h2).mono fun _ _ ⟨he, hw⟩ => ⟨he, by rw [← hw]; exact O.row _ (fillN_length _ _ _ _)⟩
theorem own_write (O : Owns W w p g bs h) (a : Int) (s : ByteArray) (h1 : 0 ≤ a) (h2 : a + s.size ≤ bs.length) :
    Calls Try.prog 12 #[.pointer (some ⟨p, 0, none⟩), .int .i64 a, .string s] w fun e w' => e = .returned (.int .i64 0) ∧ Owns W w' p g (spliceB bs a.toNat s.data.toList) h :=
  (write_ok w O.mem a s h1 h2).mono fun _ _ ⟨he, hw⟩ => ⟨he, by rw [← hw]; exact O.row _ (spliceB_length _ _ _ (by have := str_len s; omega))⟩
theorem own_move (O : Owns W w p g bs h) (f t n : Int) (h1 : 0 ≤ f) (h2 : 0 ≤ n) (h3 : f + n ≤ bs.length) (h4 : 0 ≤ t) (h5 : t + n ≤ bs.length) :
    Calls Try.prog 19 #[.pointer (some ⟨p, 0, none⟩), .int .i64 f, .int .i64 t, .int .i64 n] w fun e w' => e = .returned (.int .i64 0) ∧ Owns W w' p g (spliceB bs t.toNat (seg bs f.toNat n.toNat)) h :=
  (move_ok w O.mem f t n h1 h2 h3 h4 h5).mono fun _ _ ⟨he, hw⟩ => ⟨he, by rw [← hw]; exact O.row _ (spliceB_length _ _ _ (by rw [seg_length _ _ _ (by omega)]; omega))⟩
theorem own_allot (O : Owns W w p g bs h) (hh : h ≤ 65536) (n : Int) :
    Calls Try.prog 21 #[.pointer (some ⟨p, 0, none⟩), .int .i64 n] w fun e w' => e = .returned (.int .i64 (allotE bs.length h n)) ∧ Owns W w' p g bs (allotH bs.length h n) :=
  (allot_any w O.mem hh n).mono fun _ _ H => O.was H
theorem own_align (O : Owns W w p g bs h) (hh : h ≤ 65536) :
    Calls Try.prog 24 #[.pointer (some ⟨p, 0, none⟩)] w fun e w' => e = .returned (.int .i64 (allotE bs.length h (-(h : Int) % 8))) ∧ Owns W w' p g bs (allotH bs.length h (-(h : Int) % 8)) :=
  (align_any w O.mem hh).mono fun _ _ H => O.was H
theorem own_comma (O : Owns W w p g bs h) (hh : h ≤ 65536) (x : Int) (h1 : h % 8 = 0) (h2 : 8 ≤ (bs.length : Int) - 512 - h) :
    Calls Try.prog 25 #[.pointer (some ⟨p, 0, none⟩), .int .i64 x] w fun e w' => e = .returned (.int .i64 0) ∧ Owns W w' p g (putN bs h x 8) (h + 8) :=
  (comma_ok w O.mem hh x h1 h2).mono fun _ _ H => O.was H
theorem own_comma_no (O : Owns W w p g bs h) (hh : h ≤ 65536) (x : Int) (h1 : h % 8 = 0) (h2 : ¬ 8 ≤ (bs.length : Int) - 512 - h) :
    Calls Try.prog 25 #[.pointer (some ⟨p, 0, none⟩), .int .i64 x] w fun e w' => e = .returned (.int .i64 (-8)) ∧ Owns W w' p g bs h :=
  (comma_no w O.mem hh x h1 h2).mono fun _ _ H => O.was H
theorem own_ccomma (O : Owns W w p g bs h) (hh : h ≤ 65536) (c : UInt8) (h2 : 1 ≤ (bs.length : Int) - 512 - h) :
    Calls Try.prog 26 #[.pointer (some ⟨p, 0, none⟩), bV c] w fun e w' => e = .returned (.int .i64 0) ∧ Owns W w' p g (fillN bs h c 1) (h + 1) :=
  (ccomma_ok w O.mem hh c h2).mono fun _ _ H => O.was H
end
theorem shown_any (W : World) : Calls Try.prog 10 #[] W fun e w' => e = .returned (.bool true) ∧ Below W.heap.size W w' := by
  have hB := Below.refl W.heap.size W
  have hN := Lib.hid (own_new (w := W) hB 1024 (by omega) (by omega) (by omega))
  clear hB
  go_enter Try.func10, Try.ntmps10
  go_wp2_with fail
  refine hN.out.mono ?_
  rintro e w1 ⟨p, g, rfl, O1⟩
  go_wp2_with fail
  refine (own_put O1 8 (-2) (by omega) (by rw [zbs_length]; omega) (by omega)).mono ?_
  rintro e w2 ⟨rfl, O2⟩
  go_wp2_with fail
  have hb : (putN (zbs 1024) (8 : Int).toNat (-2) 8).length = 1024 := by rw [putN_length, zbs_length]
  have HB := Lib.hid hb
  clear hb
  refine (getb_ok w2 O2.mem 8 (by omega) (by rw [HB.out]; omega)).mono ?_
  rintro e w3 ⟨rfl, rfl⟩
  have hv : bV ((putN (zbs 1024) (8 : Int).toNat (-2) 8).getD (8 : Int).toNat 0) = .int .u8 254 := by
    rw [List.getD_eq_getElem?_getD, putN_get _ _ _ _ (by rw [zbs_length]; decide), if_pos (by decide)]
    have e : (byteOf (-2) 0).toNat = 254 := by decide +kernel
    show Value.int .u8 ((byteOf (-2) 0).toNat : Int) = _
    rw [e]; rfl
  rw [hv]
  clear hv
  go_wp2_with fail
  refine (get_no w2 O2.mem 1024 (by rw [HB.out]; omega)).mono ?_
  rintro e w3 ⟨rfl, rfl⟩
  go_wp2_with fail
  refine (put_un w2 O2.mem 4 1 (by omega) (by rw [HB.out]; omega) (by omega)).mono ?_
  rintro e w3 ⟨rfl, rfl⟩
  go_wp2_with fail
  all_goals (first | (go_ret; exact ⟨rfl, O2.below⟩) | exact ⟨rfl, O2.below⟩)
theorem shown_ok (W w : World) (h : Below W.heap.size W w) : Calls Try.prog 10 #[] w fun e w' => e = .returned (.bool true) ∧ Below W.heap.size W w' :=
  (shown_any w).mono fun _ _ ⟨he, hb⟩ => ⟨he, h.trans (hb.mono h.size)⟩
end Go.Proofs.Ytaaebgdlmhpdkaa
