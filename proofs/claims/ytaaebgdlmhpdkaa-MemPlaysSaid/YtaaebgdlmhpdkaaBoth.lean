/- A memory and the reference's, the same bytes in both: what each call answers, and leaves, is the same in both. Plain joins of the two sides' contracts. -/
import Derived.Test.YtaaebgdlmhpdkaaRefGive
namespace Go.Proofs.Ytaaebgdlmhpdkaa
open Go.RowKit
structure Both (W w : World) (p g p2 g2 : Nat) (bs : List UInt8) (h : Nat) : Prop where
  mem : MemIs w p g bs h
  ref : RefIs w p2 g2 bs h
  below : Below W.heap.size W w
  pge : W.heap.size ≤ p ∧ W.heap.size ≤ g ∧ W.heap.size ≤ p2 ∧ W.heap.size ≤ g2
  apart : p ≠ p2 ∧ p ≠ g2 ∧ g ≠ p2 ∧ g ≠ g2
  hh : h ≤ 65536
section
variable {W w w' w'' : World} {p g p2 g2 : Nat} {bs cs : List UInt8} {h k : Nat} {v u : Value} {e d : Ending}
theorem Both.mem_was (B : Both W w p g p2 g2 bs h) (H : Was w p g cs k v e w') : e = .returned v ∧ RefIs w' p2 g2 bs h ∧ MemIs w' p g cs k ∧ Kept (fun r => r = p ∨ r = g) w w' :=
  ⟨H.1, B.ref.kept H.2.2 (fun x => x.elim (fun y => B.apart.1 y.symm) (fun y => B.apart.2.2.1 y.symm)) (fun x => x.elim (fun y => B.apart.2.1 y.symm) (fun y => B.apart.2.2.2 y.symm)), H.2.1, H.2.2⟩
theorem Both.ref_was (B : Both W w p g p2 g2 bs h) (M : MemIs w' p g cs k) (K : Kept (fun r => r = p ∨ r = g) w w') (hk : k ≤ 65536) (H : RWas w' p2 g2 cs k u d w'') : d = .returned u ∧ Both W w'' p g p2 g2 cs k := by
  have b1 := K.below B.below B.below.size (fun r hr => by have := B.pge; rcases hr with rfl | rfl <;> omega)
  exact ⟨H.1, M.kept H.2.2 (fun x => x.elim B.apart.1 B.apart.2.1) (fun x => x.elim B.apart.2.2.1 B.apart.2.2.2), H.2.1,
    H.2.2.below b1 b1.size (fun r hr => by have := B.pge; rcases hr with rfl | rfl <;> omega), B.pge, B.apart, hk⟩
theorem Both.kept (B : Both W w p g p2 g2 bs h) (K : Kept (fun _ => False) w w') : Both W w' p g p2 g2 bs h :=
  ⟨B.mem.kept K (fun x => x) (fun x => x), B.ref.kept K (fun x => x) (fun x => x), K.below B.below B.below.size (fun _ x => x.elim), B.pge, B.apart, B.hh⟩
theorem Was.of_row (M : MemIs w p g bs h) (hl : cs.length = bs.length) (H : e = .returned v ∧ w.setRow g (cs.map bV).toArray = w') : Was w p g cs h v e w' :=
  ⟨H.1, by rw [← H.2]; exact M.setRow cs hl, by rw [← H.2]; exact (Kept.refl _ w).setRow (.inl (.inr rfl)) _⟩
theorem Was.of_same (M : MemIs w p g bs h) (H : e = .returned v ∧ w = w') : Was w p g bs h v e w' :=
  ⟨H.1, by rw [← H.2]; exact M, by rw [← H.2]; exact Kept.refl _ w⟩
end
def Same (f f2 : FuncId) (bs : List UInt8) (h : Nat) (args : List Value) (v : Value) : Prop :=
  (∀ w p g, MemIs w p g bs h → Calls Try.prog f (Value.pointer (some ⟨p, 0, none⟩) :: args).toArray w fun e w' => e = .returned v ∧ w = w') ∧
  (∀ w p g, RefIs w p g bs h → Calls Try.prog f2 (Value.pointer (some ⟨p, 0, none⟩) :: args).toArray w fun e w' => e = .returned v ∧ w = w')
def Turns (f f2 : FuncId) (bs : List UInt8) (h : Nat) (args : List Value) (cs : List UInt8) (k : Nat) (v : Value) : Prop :=
  k ≤ 65536 ∧
  (∀ w p g, MemIs w p g bs h → Calls Try.prog f (Value.pointer (some ⟨p, 0, none⟩) :: args).toArray w (Was w p g cs k v)) ∧
  (∀ w p g, RefIs w p g bs h → Calls Try.prog f2 (Value.pointer (some ⟨p, 0, none⟩) :: args).toArray w (RWas w p g cs k v))
section
variable (bs : List UInt8) (h : Nat)
theorem get_both (a : Int) : ∃ x e : Int, Same 14 32 bs h [.int .i64 a] (.tuple #[.int .i64 x, .int .i64 e]) := by
  by_cases h1 : 0 ≤ a ∧ a + 8 ≤ bs.length
  · by_cases h2 : a % 8 = 0
    · exact ⟨_, _, fun w p g M => get_ok w M a h1.1 h1.2 h2, fun w p g M => rget_ok w M a h1.1 h1.2 h2⟩
    · exact ⟨_, _, fun w p g M => get_un w M a h1.1 h1.2 h2, fun w p g M => rget_un w M a h1.1 h1.2 h2⟩
  · exact ⟨_, _, fun w p g M => get_no w M a h1, fun w p g M => rget_no w M a h1⟩
theorem getb_both (a : Int) : ∃ x e : Int, Same 17 34 bs h [.int .i64 a] (.tuple #[.int .u8 x, .int .i64 e]) := by
  by_cases h1 : 0 ≤ a ∧ a < bs.length
  · exact ⟨_, _, fun w p g M => getb_ok w M a h1.1 h1.2, fun w p g M => rgetb_ok w M a h1.1 h1.2⟩
  · exact ⟨_, _, fun w p g M => getb_no w M a h1, fun w p g M => rgetb_no w M a h1⟩
theorem text_both (a n : Int) : ∃ (s : ByteArray) (e : Int), Same 16 36 bs h [.int .i64 a, .int .i64 n] (.tuple #[.string s, .int .i64 e]) := by
  by_cases h1 : 0 ≤ a ∧ 0 ≤ n ∧ a + n ≤ bs.length
  · exact ⟨_, _, fun w p g M => text_ok w M a n h1.1 h1.2.1 h1.2.2, fun w p g M => rtext_ok w M a n h1.1 h1.2.1 h1.2.2⟩
  · exact ⟨_, _, fun w p g M => text_no w M a n (by omega), fun w p g M => rtext_no w M a n (by omega)⟩
theorem put_both (hh : h ≤ 65536) (a x : Int) : ∃ cs k e, Turns 13 33 bs h [.int .i64 a, .int .i64 x] cs k (.int .i64 e) := by
  by_cases h1 : 0 ≤ a ∧ a + 8 ≤ bs.length
  · by_cases h2 : a % 8 = 0
    · exact ⟨_, _, _, hh, fun w p g M => (put_ok w M a x h1.1 h1.2 h2).mono fun _ _ H => Was.of_row M (putN_length _ _ _ _) H, fun w p g M => (rput_ok w M a x h1.1 h1.2 h2).mono fun _ _ H => RWas.of_row M (putN_length _ _ _ _) H⟩
    · exact ⟨_, _, _, hh, fun w p g M => (put_un w M a x h1.1 h1.2 h2).mono fun _ _ H => Was.of_same M H, fun w p g M => (rput_un w M a x h1.1 h1.2 h2).mono fun _ _ H => RWas.of_same M H⟩
  · exact ⟨_, _, _, hh, fun w p g M => (put_no w M a x h1).mono fun _ _ H => Was.of_same M H, fun w p g M => (rput_no w M a x h1).mono fun _ _ H => RWas.of_same M H⟩
theorem byte_mod (y : Int) : Value.int .u8 (y % 256) = bV (byteOf y 0) := by
  have := byteOf_mod y 0
  simp at this
  unfold bV
  rw [← this]
theorem putb_both (hh : h ≤ 65536) (a y : Int) : ∃ cs k e, Turns 20 35 bs h [.int .i64 a, .int .u8 (y % 256)] cs k (.int .i64 e) := by
  by_cases h1 : 0 ≤ a ∧ a < bs.length
  · rw [byte_mod]
    exact ⟨_, _, _, hh, fun w p g M => (putb_ok w M a _ h1.1 h1.2).mono fun _ _ H => Was.of_row M (fillN_length _ _ _ _) H, fun w p g M => (rputb_ok w M a _ h1.1 h1.2).mono fun _ _ H => RWas.of_row M (fillN_length _ _ _ _) H⟩
  · exact ⟨_, _, _, hh, fun w p g M => (putb_no w M a _ h1).mono fun _ _ H => Was.of_same M H, fun w p g M => (rputb_no w M a _ h1).mono fun _ _ H => RWas.of_same M H⟩
theorem fill_both (hh : h ≤ 65536) (a n y : Int) : ∃ cs k e, Turns 18 38 bs h [.int .i64 a, .int .i64 n, .int .u8 (y % 256)] cs k (.int .i64 e) := by
  by_cases h1 : 0 ≤ a ∧ 0 ≤ n ∧ a + n ≤ bs.length
  · rw [byte_mod]
    exact ⟨_, _, _, hh, fun w p g M => (fill_ok w M a n _ h1.1 h1.2.1 h1.2.2).mono fun _ _ H => Was.of_row M (fillN_length _ _ _ _) H, fun w p g M => (rfill_ok w M a n _ h1.1 h1.2.1 h1.2.2).mono fun _ _ H => RWas.of_row M (fillN_length _ _ _ _) H⟩
  · exact ⟨_, _, _, hh, fun w p g M => (fill_no w M a n _ (by omega)).mono fun _ _ H => Was.of_same M H, fun w p g M => (rfill_no w M a n _ (by omega)).mono fun _ _ H => RWas.of_same M H⟩
theorem write_both (hh : h ≤ 65536) (a : Int) (s : ByteArray) (hs : s.size ≤ 4611686018427387904) : ∃ cs k e, Turns 12 37 bs h [.int .i64 a, .string s] cs k (.int .i64 e) := by
  by_cases h1 : 0 ≤ a ∧ a + s.size ≤ bs.length
  · exact ⟨_, _, _, hh, fun w p g M => (write_ok w M a s h1.1 h1.2).mono fun _ _ H => Was.of_row M (spliceB_length _ _ _ (by have := str_len s; omega)) H, fun w p g M => rwrite_ok w M a s h1.1 h1.2⟩
  · exact ⟨_, _, _, hh, fun w p g M => (write_no w M a s hs h1).mono fun _ _ H => Was.of_same M H, fun w p g M => (rwrite_no w M a s hs h1).mono fun _ _ H => RWas.of_same M H⟩
theorem move_both (hh : h ≤ 65536) (f t n : Int) : ∃ cs k e, Turns 19 39 bs h [.int .i64 f, .int .i64 t, .int .i64 n] cs k (.int .i64 e) := by
  by_cases h1 : 0 ≤ f ∧ 0 ≤ n ∧ f + n ≤ bs.length
  · by_cases h2 : 0 ≤ t ∧ t + n ≤ bs.length
    · exact ⟨_, _, _, hh, fun w p g M => (move_ok w M f t n h1.1 h1.2.1 h1.2.2 h2.1 h2.2).mono fun _ _ H => Was.of_row M (spliceB_length _ _ _ (by rw [seg_length _ _ _ (by omega)]; omega)) H, fun w p g M => rmove_ok w M f t n h1.1 h1.2.1 h1.2.2 h2.1 h2.2⟩
    · exact ⟨_, _, _, hh, fun w p g M => (move_no2 w M f t n h1.1 h1.2.1 h1.2.2 (by omega)).mono fun _ _ H => Was.of_same M H, fun w p g M => (rmove_no2 w M f t n h1.1 h1.2.1 h1.2.2 (by omega)).mono fun _ _ H => RWas.of_same M H⟩
  · exact ⟨_, _, _, hh, fun w p g M => (move_no1 w M f t n (by omega)).mono fun _ _ H => Was.of_same M H, fun w p g M => (rmove_no1 w M f t n (by omega)).mono fun _ _ H => RWas.of_same M H⟩
theorem allotH_le (hh : h ≤ 65536) (hl : bs.length ≤ 65536) (n : Int) : allotH bs.length h n ≤ 65536 := by
  unfold allotH; split <;> omega
theorem allot_both (hh : h ≤ 65536) (hl : bs.length ≤ 65536) (n : Int) : ∃ cs k e, Turns 21 40 bs h [.int .i64 n] cs k (.int .i64 e) :=
  ⟨_, _, _, allotH_le bs h hh hl n, fun w _ _ M => allot_any w M hh n, fun w _ _ M => rallot_any w M hh n⟩
theorem align_both (hh : h ≤ 65536) (hl : bs.length ≤ 65536) : ∃ cs k e, Turns 24 41 bs h [] cs k (.int .i64 e) :=
  ⟨_, _, _, allotH_le bs h hh hl _, fun w _ _ M => align_any w M hh, fun w _ _ M => ralign_any w M hh⟩
theorem comma_both (hh : h ≤ 65536) (hl : bs.length ≤ 65536) (x : Int) : ∃ cs k e, Turns 25 42 bs h [.int .i64 x] cs k (.int .i64 e) := by
  by_cases h1 : h % 8 = 0
  · by_cases h2 : 8 ≤ (bs.length : Int) - 512 - h
    · exact ⟨_, _, _, by omega, fun w p g M => comma_ok w M hh x h1 h2, fun w p g M => rcomma_ok w M hh x h1 h2⟩
    · exact ⟨_, _, _, hh, fun w p g M => comma_no w M hh x h1 h2, fun w p g M => rcomma_no w M hh x h1 h2⟩
  · exact ⟨_, _, _, hh, fun w p g M => (comma_un w M x h1).mono fun _ _ H => Was.of_same M H, fun w p g M => (rcomma_un w M x h1).mono fun _ _ H => RWas.of_same M H⟩
theorem ccomma_both (hh : h ≤ 65536) (hl : bs.length ≤ 65536) (y : Int) : ∃ cs k e, Turns 26 43 bs h [.int .u8 (y % 256)] cs k (.int .i64 e) := by
  by_cases h2 : 1 ≤ (bs.length : Int) - 512 - h
  · rw [byte_mod]
    exact ⟨_, _, _, by omega, fun w p g M => ccomma_ok w M hh _ h2, fun w p g M => rccomma_ok w M hh _ h2⟩
  · exact ⟨_, _, _, hh, fun w p g M => ccomma_no w M hh _ h2, fun w p g M => rccomma_no w M hh _ h2⟩
end
end Go.Proofs.Ytaaebgdlmhpdkaa
