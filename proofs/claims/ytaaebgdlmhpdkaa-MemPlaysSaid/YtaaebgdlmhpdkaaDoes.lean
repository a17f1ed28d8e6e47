/- The walk of the law's does: an act, done to both. -/
import Derived.Test.YtaaebgdlmhpdkaaBoth
import Derived.Deep.RegionHeld3
namespace Go.Proofs.Ytaaebgdlmhpdkaa
open Go.RowKit
def actCells (k x y z : Int) : Array Value := #[.int .u8 k, .int .i64 x, .int .i64 y, .int .i64 z]
def actV (k x y z : Int) : Value := .agg (actCells k x y z)
def Done (W : World) (p g p2 g2 : Nat) (e : Ending) (w' : World) : Prop := e = .returned (.bool true) ∧ ∃ cs k, Both W w' p g p2 g2 cs k
/-- The act's own block, in a world. -/
def ActAt (w : World) (b : Nat) (k x y z : Int) : Prop := w.cell? ⟨b, 0, none⟩ = some (.int .u8 k) ∧ w.cell? ⟨b, 1, none⟩ = some (.int .i64 x) ∧ w.cell? ⟨b, 2, none⟩ = some (.int .i64 y) ∧ w.cell? ⟨b, 3, none⟩ = some (.int .i64 z)
section
variable {W w w' : World} {p g p2 g2 : Nat} {bs cs : List UInt8} {h : Nat} {k x y z : Int}
theorem act_alloc (w : World) (k x y z : Int) : ActAt (w.alloc (.cells (actCells k x y z) 63)) w.heap.size k x y z := by
  have hb := (MapKept.heap_alloc w (.cells (actCells k x y z) 63)).1
  refine ⟨?_, ?_, ?_, ?_⟩ <;> rw [cell_block hb] <;> rfl
theorem ActAt.kept {S : Nat → Prop} {b : Nat} (A : ActAt w b k x y z) (K : Kept S w w') (hb : ¬ S b) : ActAt w' b k x y z := by
  have hlt : b < w.heap.size := by
    have h1 := A.1
    unfold World.cell? at h1
    cases hq : w.heap[b]? with
    | none => rw [hq] at h1; simp at h1
    | some o => exact (Array.getElem?_eq_some_iff.1 hq).1
  have e := K.block b hlt hb
  unfold ActAt World.cell? at *
  simp only [e]
  exact A
theorem Both.far (B : Both W w p g p2 g2 bs h) : (p ≠ w.heap.size ∧ g ≠ w.heap.size) ∧ p2 ≠ w.heap.size ∧ g2 ≠ w.heap.size := by
  have := B.mem.lt; have := B.ref.lt; omega
end
theorem and63 (x : Int) : ∃ n : Nat, bits .and .i64 x 63 = (n : Int) ∧ n < 64 := by
  have e : bits .and .i64 x 63 = x % 64 := by
    show IntKind.i64.wrap ((BitVec.ofInt 64 x &&& BitVec.ofInt 64 63).toNat : Int) = _
    have e : (BitVec.ofInt 64 63).toNat = 2 ^ 6 - 1 := by decide
    rw [BitVec.toNat_and, e, Nat.and_two_pow_sub_one_eq_mod, BitVec.toNat_ofInt, IntWalk.i64_in _ (by omega)]
    omega
  exact ⟨(x % 64).toNat, by rw [e]; omega, by omega⟩
theorem zero_conv (w : World) (n : Nat) : ∃ s : ByteArray, s.size = n ∧ (convert 22 9 (.slice (some ⟨w.heap.size, 0, none⟩) n n)).run Try.prog (w.alloc (.cells (zeros n) 5)) = .ok (.string s) (w.alloc (.cells (zeros n) 5)) := by
  have hb := (MapKept.heap_alloc w (.cells (zeros n) 5)).1
  have hl : (List.replicate n (0 : UInt8)).length = n := List.length_replicate
  have e := run_convert_bytes_back (P := Try.prog) (w.alloc (.cells (zeros n) 5)) 22 9 5 ⟨w.heap.size, 0, none⟩ n (List.replicate n 0) Try.underlying22 Try.underlying5 Try.underlying9 (fun j hj => by
    rw [hl] at hj
    have e : (⟨w.heap.size, 0, none⟩ : Addr).add j = ⟨w.heap.size, j, none⟩ := by unfold Addr.add; split <;> simp_all
    rw [e, cell_block hb]
    simp [zeros, hj, bV])
  rw [hl] at e
  exact ⟨_, by show (List.replicate n (0 : UInt8)).toArray.size = n; simp, e⟩
theorem quiet_left {P : Program} {f : FuncId} {args : Array Value} {w : World} {n : Nat} {v : Value}
    (h : Calls P f args (w.drewN n) fun e w' => e = .returned v ∧ w.drewN n = w') : Calls P f args (w.drewN n) fun e w'' => e = .returned v ∧ ∃ m, w'' = w.drewN m :=
  h.mono fun _ _ ⟨he, hm⟩ => ⟨he, n, hm.symm⟩
-- WALKS
set_option maxHeartbeats 2000000 in
set_option maxRecDepth 100000 in
theorem does_0 {W w : World} {p g p2 g2 : Nat} {bs : List UInt8} {h : Nat} (B : Both W w p g p2 g2 bs h) (k x y z : Int) (h0 : 0 ≤ k) (hk : k % 13 = 0) :
    Calls Try.prog 29 #[.pointer (some ⟨p, 0, none⟩), .pointer (some ⟨p2, 0, none⟩), actV k x y z] w (Done W p g p2 g2) := by
  obtain ⟨xx, ee, HT⟩ := get_both bs h x
  have HT := Lib.hid HT
  have HF := Lib.hid B.far
  have HA := Lib.hid (act_alloc w k x y z)
  have HB := Lib.hid (B.kept ((Kept.refl _ w).alloc (.cells (actCells k x y z) 63)))
  clear B
  unfold actV actCells at *
  go_enter Try.func29, Try.ntmps29
  try simp only [List.append]
  go_wp2_with fail
  generalize w.alloc (Obj.cells #[.int .u8 k, .int .i64 x, .int .i64 y, .int .i64 z] 63) = wa at *
  generalize w.heap.size = b at *
  clear w
  refine (HT.out.1 _ _ _ HB.out.mem).mono ?_
  rintro e w2 ⟨rfl, rfl⟩
  obtain ⟨c0, c1, c2, c3⟩ := HA.out
  go_wp2_with fail
  refine (HT.out.2 _ _ _ HB.out.ref).mono ?_
  rintro e w2 ⟨rfl, rfl⟩
  go_wp2_with fail
  all_goals (first | go_ret | skip)
  all_goals exact ⟨rfl, _, _, HB.out⟩
set_option maxHeartbeats 2000000 in
set_option maxRecDepth 100000 in
theorem does_1 {W w : World} {p g p2 g2 : Nat} {bs : List UInt8} {h : Nat} (B : Both W w p g p2 g2 bs h) (k x y z : Int) (h0 : 0 ≤ k) (hk : k % 13 = 1) :
    Calls Try.prog 29 #[.pointer (some ⟨p, 0, none⟩), .pointer (some ⟨p2, 0, none⟩), actV k x y z] w (Done W p g p2 g2) := by
  obtain ⟨cs, q, ee, HT⟩ := put_both bs h B.hh x y
  have HT := Lib.hid HT
  have HF := Lib.hid B.far
  have HA := Lib.hid (act_alloc w k x y z)
  have HB := Lib.hid (B.kept (((Kept.refl _ w).alloc (.cells (actCells k x y z) 63)).drew))
  clear B
  unfold actV actCells at *
  go_enter Try.func29, Try.ntmps29
  try simp only [List.append]
  go_wp2_with fail
  generalize w.alloc (Obj.cells #[.int .u8 k, .int .i64 x, .int .i64 y, .int .i64 z] 63) = wa at *
  generalize w.heap.size = b at *
  clear w
  go_region_held3 (fun w' => w'.cell? ⟨b, 0, none⟩ = some (.int .u8 k) ∧ w'.cell? ⟨b, 1, none⟩ = some (.int .i64 x) ∧ w'.cell? ⟨b, 2, none⟩ = some (.int .i64 y) ∧ w'.cell? ⟨b, 3, none⟩ = some (.int .i64 z))
    (first | exact HA.out | exact HS2.out | exact HS3.out)
    (first
      | (go_at_call 13
         refine (HT.out.2.1 _ _ _ HB.out.mem).mono ?_
         rintro e w2 H
         obtain ⟨rfl, hr, hm, hk2⟩ := HB.out.mem_was H
         have HR := Lib.hid hr
         have HM := Lib.hid hm
         have HK := Lib.hid hk2
         have HS2 := Lib.hid (ActAt.kept (w := wa.drew) HA.out hk2 (fun c => c.elim (fun d => HF.out.1.1 d.symm) (fun d => HF.out.1.2 d.symm)))
         clear hr hm hk2 H)
      | (go_at_call 33
         refine (HT.out.2.2 _ _ _ HR.out).mono ?_
         rintro e w3 H
         obtain ⟨rfl, B3⟩ := HB.out.ref_was HM.out HK.out HT.out.1 H
         have HS3 := Lib.hid (ActAt.kept HS2.out H.2.2 (fun c => c.elim (fun d => HF.out.2.1 d.symm) (fun d => HF.out.2.2 d.symm)))
         have HB3 := Lib.hid B3
         clear B3 H))
  go_wp2_with fail
  all_goals (first | go_ret | skip)
  all_goals exact ⟨rfl, _, _, HB3.out⟩
set_option maxHeartbeats 2000000 in
set_option maxRecDepth 100000 in
theorem does_2 {W w : World} {p g p2 g2 : Nat} {bs : List UInt8} {h : Nat} (B : Both W w p g p2 g2 bs h) (k x y z : Int) (h0 : 0 ≤ k) (hk : k % 13 = 2) :
    Calls Try.prog 29 #[.pointer (some ⟨p, 0, none⟩), .pointer (some ⟨p2, 0, none⟩), actV k x y z] w (Done W p g p2 g2) := by
  obtain ⟨xx, ee, HT⟩ := getb_both bs h x
  have HT := Lib.hid HT
  have HF := Lib.hid B.far
  have HA := Lib.hid (act_alloc w k x y z)
  have HB := Lib.hid (B.kept ((Kept.refl _ w).alloc (.cells (actCells k x y z) 63)))
  clear B
  unfold actV actCells at *
  go_enter Try.func29, Try.ntmps29
  try simp only [List.append]
  go_wp2_with fail
  generalize w.alloc (Obj.cells #[.int .u8 k, .int .i64 x, .int .i64 y, .int .i64 z] 63) = wa at *
  generalize w.heap.size = b at *
  clear w
  refine (HT.out.1 _ _ _ HB.out.mem).mono ?_
  rintro e w2 ⟨rfl, rfl⟩
  obtain ⟨c0, c1, c2, c3⟩ := HA.out
  go_wp2_with fail
  refine (HT.out.2 _ _ _ HB.out.ref).mono ?_
  rintro e w2 ⟨rfl, rfl⟩
  go_wp2_with fail
  all_goals (first | go_ret | skip)
  all_goals exact ⟨rfl, _, _, HB.out⟩
set_option maxHeartbeats 2000000 in
set_option maxRecDepth 100000 in
theorem does_3 {W w : World} {p g p2 g2 : Nat} {bs : List UInt8} {h : Nat} (B : Both W w p g p2 g2 bs h) (k x y z : Int) (h0 : 0 ≤ k) (hk : k % 13 = 3) :
    Calls Try.prog 29 #[.pointer (some ⟨p, 0, none⟩), .pointer (some ⟨p2, 0, none⟩), actV k x y z] w (Done W p g p2 g2) := by
  obtain ⟨cs, q, ee, HT⟩ := putb_both bs h B.hh x y
  have HT := Lib.hid HT
  have HF := Lib.hid B.far
  have HA := Lib.hid (act_alloc w k x y z)
  have HB := Lib.hid (B.kept (((Kept.refl _ w).alloc (.cells (actCells k x y z) 63)).drew))
  clear B
  unfold actV actCells at *
  go_enter Try.func29, Try.ntmps29
  try simp only [List.append]
  go_wp2_with fail
  generalize w.alloc (Obj.cells #[.int .u8 k, .int .i64 x, .int .i64 y, .int .i64 z] 63) = wa at *
  generalize w.heap.size = b at *
  clear w
  have hw8 : IntKind.u8.wrap y = y % 256 := IntKind.wrap_u8' _
  go_region_held3 (fun w' => w'.cell? ⟨b, 0, none⟩ = some (.int .u8 k) ∧ w'.cell? ⟨b, 1, none⟩ = some (.int .i64 x) ∧ w'.cell? ⟨b, 2, none⟩ = some (.int .i64 y) ∧ w'.cell? ⟨b, 3, none⟩ = some (.int .i64 z))
    (first | exact HA.out | exact HS2.out | exact HS3.out)
    (first
      | (go_at_call 20
         refine (HT.out.2.1 _ _ _ HB.out.mem).mono ?_
         rintro e w2 H
         obtain ⟨rfl, hr, hm, hk2⟩ := HB.out.mem_was H
         have HR := Lib.hid hr
         have HM := Lib.hid hm
         have HK := Lib.hid hk2
         have HS2 := Lib.hid (ActAt.kept (w := wa.drew) HA.out hk2 (fun c => c.elim (fun d => HF.out.1.1 d.symm) (fun d => HF.out.1.2 d.symm)))
         clear hr hm hk2 H)
      | (go_at_call 35
         refine (HT.out.2.2 _ _ _ HR.out).mono ?_
         rintro e w3 H
         obtain ⟨rfl, B3⟩ := HB.out.ref_was HM.out HK.out HT.out.1 H
         have HS3 := Lib.hid (ActAt.kept HS2.out H.2.2 (fun c => c.elim (fun d => HF.out.2.1 d.symm) (fun d => HF.out.2.2 d.symm)))
         have HB3 := Lib.hid B3
         clear B3 H))
  clear hw8
  go_wp2_with fail
  all_goals (first | go_ret | skip)
  all_goals exact ⟨rfl, _, _, HB3.out⟩
set_option maxHeartbeats 2000000 in
set_option maxRecDepth 100000 in
theorem does_4 {W w : World} {p g p2 g2 : Nat} {bs : List UInt8} {h : Nat} (B : Both W w p g p2 g2 bs h) (k x y z : Int) (h0 : 0 ≤ k) (hk : k % 13 = 4) :
    Calls Try.prog 29 #[.pointer (some ⟨p, 0, none⟩), .pointer (some ⟨p2, 0, none⟩), actV k x y z] w (Done W p g p2 g2) := by
  obtain ⟨xx, ee, HT⟩ := text_both bs h x y
  have HT := Lib.hid HT
  have HF := Lib.hid B.far
  have HA := Lib.hid (act_alloc w k x y z)
  have HB := Lib.hid (B.kept ((Kept.refl _ w).alloc (.cells (actCells k x y z) 63)))
  clear B
  unfold actV actCells at *
  go_enter Try.func29, Try.ntmps29
  try simp only [List.append]
  go_wp2_with fail
  generalize w.alloc (Obj.cells #[.int .u8 k, .int .i64 x, .int .i64 y, .int .i64 z] 63) = wa at *
  generalize w.heap.size = b at *
  clear w
  refine (HT.out.1 _ _ _ HB.out.mem).mono ?_
  rintro e w2 ⟨rfl, rfl⟩
  obtain ⟨c0, c1, c2, c3⟩ := HA.out
  go_wp2_with fail
  refine (HT.out.2 _ _ _ HB.out.ref).mono ?_
  rintro e w2 ⟨rfl, rfl⟩
  go_wp2_with fail
  all_goals (first | go_ret | skip)
  all_goals exact ⟨rfl, _, _, HB.out⟩
set_option maxHeartbeats 2000000 in
set_option maxRecDepth 100000 in
theorem does_5 {W w : World} {p g p2 g2 : Nat} {bs : List UInt8} {h : Nat} (B : Both W w p g p2 g2 bs h) (k x y z : Int) (h0 : 0 ≤ k) (hk : k % 13 = 5) :
    Calls Try.prog 29 #[.pointer (some ⟨p, 0, none⟩), .pointer (some ⟨p2, 0, none⟩), actV k x y z] w (Done W p g p2 g2) := by
  obtain ⟨n, hn, hn2⟩ := and63 y
  obtain ⟨s0, hs0, hcv⟩ := zero_conv (w.alloc (.cells (actCells k x y z) 63)) n
  have hmk := run_make_bytes (w.alloc (.cells (actCells k x y z) 63)) n (by omega)
  have hsz : (w.alloc (.cells (actCells k x y z) 63)).heap.size = w.heap.size + 1 := by simp
  rw [hsz] at hcv hmk
  clear hsz
  obtain ⟨cs, q, ee, HT⟩ := write_both bs h B.hh x (s0 ++ ⟨#[120]⟩) (by rw [ByteArray.size_append]; have : (⟨#[120]⟩ : ByteArray).size = 1 := rfl; omega)
  have HT := Lib.hid HT
  have HF := Lib.hid B.far
  have HA := Lib.hid (ActAt.kept (act_alloc w k x y z) ((Kept.refl (fun _ => False) _).alloc (.cells (zeros n) 5)) (fun c => c))
  have HB := Lib.hid (B.kept ((((Kept.refl _ w).alloc (.cells (actCells k x y z) 63)).alloc (.cells (zeros n) 5)).drew))
  have hs1 : ¬ 9223372036854775807 < s0.size + 1 := by omega
  clear B hs0
  unfold actV actCells at *
  generalize zeros n = zn at *
  go_enter Try.func29, Try.ntmps29
  try simp only [List.append]
  go_wp2_with fail
  generalize (w.alloc (Obj.cells #[.int .u8 k, .int .i64 x, .int .i64 y, .int .i64 z] 63)).alloc (Obj.cells zn 5) = wa at *
  generalize w.heap.size = b at *
  go_region_held3 (fun w' => w'.cell? ⟨b, 0, none⟩ = some (.int .u8 k) ∧ w'.cell? ⟨b, 1, none⟩ = some (.int .i64 x) ∧ w'.cell? ⟨b, 2, none⟩ = some (.int .i64 y) ∧ w'.cell? ⟨b, 3, none⟩ = some (.int .i64 z))
    (first | exact HA.out | exact HS2.out | exact HS3.out)
    (first
      | (go_at_call 12
         refine (HT.out.2.1 _ _ _ HB.out.mem).mono ?_
         rintro e w2 H
         obtain ⟨rfl, hr, hm, hk2⟩ := HB.out.mem_was H
         have HR := Lib.hid hr
         have HM := Lib.hid hm
         have HK := Lib.hid hk2
         have HS2 := Lib.hid (ActAt.kept (w := wa.drew) HA.out hk2 (fun c => c.elim (fun d => HF.out.1.1 d.symm) (fun d => HF.out.1.2 d.symm)))
         clear hr hm hk2 H)
      | (go_at_call 37
         refine (HT.out.2.2 _ _ _ HR.out).mono ?_
         rintro e w3 H
         obtain ⟨rfl, B3⟩ := HB.out.ref_was HM.out HK.out HT.out.1 H
         have HS3 := Lib.hid (ActAt.kept HS2.out H.2.2 (fun c => c.elim (fun d => HF.out.2.1 d.symm) (fun d => HF.out.2.2 d.symm)))
         have HB3 := Lib.hid B3
         clear B3 H))
  go_wp2_with fail
  all_goals (first | go_ret | skip)
  all_goals exact ⟨rfl, _, _, HB3.out⟩
set_option maxHeartbeats 2000000 in
set_option maxRecDepth 100000 in
theorem does_6 {W w : World} {p g p2 g2 : Nat} {bs : List UInt8} {h : Nat} (B : Both W w p g p2 g2 bs h) (k x y z : Int) (h0 : 0 ≤ k) (hk : k % 13 = 6) :
    Calls Try.prog 29 #[.pointer (some ⟨p, 0, none⟩), .pointer (some ⟨p2, 0, none⟩), actV k x y z] w (Done W p g p2 g2) := by
  obtain ⟨cs, q, ee, HT⟩ := fill_both bs h B.hh x y z
  have HT := Lib.hid HT
  have HF := Lib.hid B.far
  have HA := Lib.hid (act_alloc w k x y z)
  have HB := Lib.hid (B.kept (((Kept.refl _ w).alloc (.cells (actCells k x y z) 63)).drew))
  clear B
  unfold actV actCells at *
  go_enter Try.func29, Try.ntmps29
  try simp only [List.append]
  go_wp2_with fail
  generalize w.alloc (Obj.cells #[.int .u8 k, .int .i64 x, .int .i64 y, .int .i64 z] 63) = wa at *
  generalize w.heap.size = b at *
  clear w
  have hw8 : IntKind.u8.wrap z = z % 256 := IntKind.wrap_u8' _
  go_region_held3 (fun w' => w'.cell? ⟨b, 0, none⟩ = some (.int .u8 k) ∧ w'.cell? ⟨b, 1, none⟩ = some (.int .i64 x) ∧ w'.cell? ⟨b, 2, none⟩ = some (.int .i64 y) ∧ w'.cell? ⟨b, 3, none⟩ = some (.int .i64 z))
    (first | exact HA.out | exact HS2.out | exact HS3.out)
    (first
      | (go_at_call 18
         refine (HT.out.2.1 _ _ _ HB.out.mem).mono ?_
         rintro e w2 H
         obtain ⟨rfl, hr, hm, hk2⟩ := HB.out.mem_was H
         have HR := Lib.hid hr
         have HM := Lib.hid hm
         have HK := Lib.hid hk2
         have HS2 := Lib.hid (ActAt.kept (w := wa.drew) HA.out hk2 (fun c => c.elim (fun d => HF.out.1.1 d.symm) (fun d => HF.out.1.2 d.symm)))
         clear hr hm hk2 H)
      | (go_at_call 38
         refine (HT.out.2.2 _ _ _ HR.out).mono ?_
         rintro e w3 H
         obtain ⟨rfl, B3⟩ := HB.out.ref_was HM.out HK.out HT.out.1 H
         have HS3 := Lib.hid (ActAt.kept HS2.out H.2.2 (fun c => c.elim (fun d => HF.out.2.1 d.symm) (fun d => HF.out.2.2 d.symm)))
         have HB3 := Lib.hid B3
         clear B3 H))
  clear hw8
  go_wp2_with fail
  all_goals (first | go_ret | skip)
  all_goals exact ⟨rfl, _, _, HB3.out⟩
set_option maxHeartbeats 2000000 in
set_option maxRecDepth 100000 in
theorem does_7 {W w : World} {p g p2 g2 : Nat} {bs : List UInt8} {h : Nat} (B : Both W w p g p2 g2 bs h) (k x y z : Int) (h0 : 0 ≤ k) (hk : k % 13 = 7) :
    Calls Try.prog 29 #[.pointer (some ⟨p, 0, none⟩), .pointer (some ⟨p2, 0, none⟩), actV k x y z] w (Done W p g p2 g2) := by
  obtain ⟨cs, q, ee, HT⟩ := move_both bs h B.hh x y z
  have HT := Lib.hid HT
  have HF := Lib.hid B.far
  have HA := Lib.hid (act_alloc w k x y z)
  have HB := Lib.hid (B.kept (((Kept.refl _ w).alloc (.cells (actCells k x y z) 63)).drew))
  clear B
  unfold actV actCells at *
  go_enter Try.func29, Try.ntmps29
  try simp only [List.append]
  go_wp2_with fail
  generalize w.alloc (Obj.cells #[.int .u8 k, .int .i64 x, .int .i64 y, .int .i64 z] 63) = wa at *
  generalize w.heap.size = b at *
  clear w
  go_region_held3 (fun w' => w'.cell? ⟨b, 0, none⟩ = some (.int .u8 k) ∧ w'.cell? ⟨b, 1, none⟩ = some (.int .i64 x) ∧ w'.cell? ⟨b, 2, none⟩ = some (.int .i64 y) ∧ w'.cell? ⟨b, 3, none⟩ = some (.int .i64 z))
    (first | exact HA.out | exact HS2.out | exact HS3.out)
    (first
      | (go_at_call 19
         refine (HT.out.2.1 _ _ _ HB.out.mem).mono ?_
         rintro e w2 H
         obtain ⟨rfl, hr, hm, hk2⟩ := HB.out.mem_was H
         have HR := Lib.hid hr
         have HM := Lib.hid hm
         have HK := Lib.hid hk2
         have HS2 := Lib.hid (ActAt.kept (w := wa.drew) HA.out hk2 (fun c => c.elim (fun d => HF.out.1.1 d.symm) (fun d => HF.out.1.2 d.symm)))
         clear hr hm hk2 H)
      | (go_at_call 39
         refine (HT.out.2.2 _ _ _ HR.out).mono ?_
         rintro e w3 H
         obtain ⟨rfl, B3⟩ := HB.out.ref_was HM.out HK.out HT.out.1 H
         have HS3 := Lib.hid (ActAt.kept HS2.out H.2.2 (fun c => c.elim (fun d => HF.out.2.1 d.symm) (fun d => HF.out.2.2 d.symm)))
         have HB3 := Lib.hid B3
         clear B3 H))
  go_wp2_with fail
  all_goals (first | go_ret | skip)
  all_goals exact ⟨rfl, _, _, HB3.out⟩
set_option maxHeartbeats 2000000 in
set_option maxRecDepth 100000 in
theorem does_8 {W w : World} {p g p2 g2 : Nat} {bs : List UInt8} {h : Nat} (B : Both W w p g p2 g2 bs h) (k x y z : Int) (h0 : 0 ≤ k) (hk : k % 13 = 8) :
    Calls Try.prog 29 #[.pointer (some ⟨p, 0, none⟩), .pointer (some ⟨p2, 0, none⟩), actV k x y z] w (Done W p g p2 g2) := by
  obtain ⟨cs, q, ee, HT⟩ := allot_both bs h B.hh B.mem.len x
  have HT := Lib.hid HT
  have HF := Lib.hid B.far
  have HA := Lib.hid (act_alloc w k x y z)
  have HB := Lib.hid (B.kept (((Kept.refl _ w).alloc (.cells (actCells k x y z) 63)).drew))
  clear B
  unfold actV actCells at *
  go_enter Try.func29, Try.ntmps29
  try simp only [List.append]
  go_wp2_with fail
  generalize w.alloc (Obj.cells #[.int .u8 k, .int .i64 x, .int .i64 y, .int .i64 z] 63) = wa at *
  generalize w.heap.size = b at *
  clear w
  go_region_held3 (fun w' => w'.cell? ⟨b, 0, none⟩ = some (.int .u8 k) ∧ w'.cell? ⟨b, 1, none⟩ = some (.int .i64 x) ∧ w'.cell? ⟨b, 2, none⟩ = some (.int .i64 y) ∧ w'.cell? ⟨b, 3, none⟩ = some (.int .i64 z))
    (first | exact HA.out | exact HS2.out | exact HS3.out)
    (first
      | (go_at_call 21
         refine (HT.out.2.1 _ _ _ HB.out.mem).mono ?_
         rintro e w2 H
         obtain ⟨rfl, hr, hm, hk2⟩ := HB.out.mem_was H
         have HR := Lib.hid hr
         have HM := Lib.hid hm
         have HK := Lib.hid hk2
         have HS2 := Lib.hid (ActAt.kept (w := wa.drew) HA.out hk2 (fun c => c.elim (fun d => HF.out.1.1 d.symm) (fun d => HF.out.1.2 d.symm)))
         clear hr hm hk2 H)
      | (go_at_call 40
         refine (HT.out.2.2 _ _ _ HR.out).mono ?_
         rintro e w3 H
         obtain ⟨rfl, B3⟩ := HB.out.ref_was HM.out HK.out HT.out.1 H
         have HS3 := Lib.hid (ActAt.kept HS2.out H.2.2 (fun c => c.elim (fun d => HF.out.2.1 d.symm) (fun d => HF.out.2.2 d.symm)))
         have HB3 := Lib.hid B3
         clear B3 H))
  go_wp2_with fail
  all_goals (first | go_ret | skip)
  all_goals exact ⟨rfl, _, _, HB3.out⟩
set_option maxHeartbeats 2000000 in
set_option maxRecDepth 100000 in
theorem does_9 {W w : World} {p g p2 g2 : Nat} {bs : List UInt8} {h : Nat} (B : Both W w p g p2 g2 bs h) (k x y z : Int) (h0 : 0 ≤ k) (hk : k % 13 = 9) :
    Calls Try.prog 29 #[.pointer (some ⟨p, 0, none⟩), .pointer (some ⟨p2, 0, none⟩), actV k x y z] w (Done W p g p2 g2) := by
  obtain ⟨cs, q, ee, HT⟩ := align_both bs h B.hh B.mem.len
  have HT := Lib.hid HT
  have HF := Lib.hid B.far
  have HA := Lib.hid (act_alloc w k x y z)
  have HB := Lib.hid (B.kept ((Kept.refl _ w).alloc (.cells (actCells k x y z) 63)))
  clear B
  unfold actV actCells at *
  go_enter Try.func29, Try.ntmps29
  try simp only [List.append]
  go_wp2_with fail
  generalize w.alloc (Obj.cells #[.int .u8 k, .int .i64 x, .int .i64 y, .int .i64 z] 63) = wa at *
  generalize w.heap.size = b at *
  clear w
  refine (HT.out.2.1 _ _ _ HB.out.mem).mono ?_
  rintro e w2 H
  obtain ⟨rfl, hr, hm, hk2⟩ := HB.out.mem_was H
  have HR := Lib.hid hr
  have HM := Lib.hid hm
  have HK := Lib.hid hk2
  clear hr hm hk2 H
  go_wp2_with fail
  refine (HT.out.2.2 _ _ _ HR.out).mono ?_
  rintro e w3 H
  obtain ⟨rfl, B3⟩ := HB.out.ref_was HM.out HK.out HT.out.1 H
  have HB3 := Lib.hid B3
  clear B3 H
  go_wp2_with fail
  all_goals (first | go_ret | skip)
  all_goals exact ⟨rfl, _, _, HB3.out⟩
set_option maxHeartbeats 2000000 in
set_option maxRecDepth 100000 in
theorem does_10 {W w : World} {p g p2 g2 : Nat} {bs : List UInt8} {h : Nat} (B : Both W w p g p2 g2 bs h) (k x y z : Int) (h0 : 0 ≤ k) (hk : k % 13 = 10) :
    Calls Try.prog 29 #[.pointer (some ⟨p, 0, none⟩), .pointer (some ⟨p2, 0, none⟩), actV k x y z] w (Done W p g p2 g2) := by
  obtain ⟨cs, q, ee, HT⟩ := comma_both bs h B.hh B.mem.len x
  have HT := Lib.hid HT
  have HF := Lib.hid B.far
  have HA := Lib.hid (act_alloc w k x y z)
  have HB := Lib.hid (B.kept (((Kept.refl _ w).alloc (.cells (actCells k x y z) 63)).drew))
  clear B
  unfold actV actCells at *
  go_enter Try.func29, Try.ntmps29
  try simp only [List.append]
  go_wp2_with fail
  generalize w.alloc (Obj.cells #[.int .u8 k, .int .i64 x, .int .i64 y, .int .i64 z] 63) = wa at *
  generalize w.heap.size = b at *
  clear w
  go_region_held3 (fun w' => w'.cell? ⟨b, 0, none⟩ = some (.int .u8 k) ∧ w'.cell? ⟨b, 1, none⟩ = some (.int .i64 x) ∧ w'.cell? ⟨b, 2, none⟩ = some (.int .i64 y) ∧ w'.cell? ⟨b, 3, none⟩ = some (.int .i64 z))
    (first | exact HA.out | exact HS2.out | exact HS3.out)
    (first
      | (go_at_call 25
         refine (HT.out.2.1 _ _ _ HB.out.mem).mono ?_
         rintro e w2 H
         obtain ⟨rfl, hr, hm, hk2⟩ := HB.out.mem_was H
         have HR := Lib.hid hr
         have HM := Lib.hid hm
         have HK := Lib.hid hk2
         have HS2 := Lib.hid (ActAt.kept (w := wa.drew) HA.out hk2 (fun c => c.elim (fun d => HF.out.1.1 d.symm) (fun d => HF.out.1.2 d.symm)))
         clear hr hm hk2 H)
      | (go_at_call 42
         refine (HT.out.2.2 _ _ _ HR.out).mono ?_
         rintro e w3 H
         obtain ⟨rfl, B3⟩ := HB.out.ref_was HM.out HK.out HT.out.1 H
         have HS3 := Lib.hid (ActAt.kept HS2.out H.2.2 (fun c => c.elim (fun d => HF.out.2.1 d.symm) (fun d => HF.out.2.2 d.symm)))
         have HB3 := Lib.hid B3
         clear B3 H))
  go_wp2_with fail
  all_goals (first | go_ret | skip)
  all_goals exact ⟨rfl, _, _, HB3.out⟩
set_option maxHeartbeats 2000000 in
set_option maxRecDepth 100000 in
theorem does_11 {W w : World} {p g p2 g2 : Nat} {bs : List UInt8} {h : Nat} (B : Both W w p g p2 g2 bs h) (k x y z : Int) (h0 : 0 ≤ k) (hk : k % 13 = 11) :
    Calls Try.prog 29 #[.pointer (some ⟨p, 0, none⟩), .pointer (some ⟨p2, 0, none⟩), actV k x y z] w (Done W p g p2 g2) := by
  obtain ⟨cs, q, ee, HT⟩ := ccomma_both bs h B.hh B.mem.len x
  have HT := Lib.hid HT
  have HF := Lib.hid B.far
  have HA := Lib.hid (act_alloc w k x y z)
  have HB := Lib.hid (B.kept (((Kept.refl _ w).alloc (.cells (actCells k x y z) 63)).drew))
  clear B
  unfold actV actCells at *
  go_enter Try.func29, Try.ntmps29
  try simp only [List.append]
  go_wp2_with fail
  generalize w.alloc (Obj.cells #[.int .u8 k, .int .i64 x, .int .i64 y, .int .i64 z] 63) = wa at *
  generalize w.heap.size = b at *
  clear w
  have hw8 : IntKind.u8.wrap x = x % 256 := IntKind.wrap_u8' _
  go_region_held3 (fun w' => w'.cell? ⟨b, 0, none⟩ = some (.int .u8 k) ∧ w'.cell? ⟨b, 1, none⟩ = some (.int .i64 x) ∧ w'.cell? ⟨b, 2, none⟩ = some (.int .i64 y) ∧ w'.cell? ⟨b, 3, none⟩ = some (.int .i64 z))
    (first | exact HA.out | exact HS2.out | exact HS3.out)
    (first
      | (go_at_call 26
         refine (HT.out.2.1 _ _ _ HB.out.mem).mono ?_
         rintro e w2 H
         obtain ⟨rfl, hr, hm, hk2⟩ := HB.out.mem_was H
         have HR := Lib.hid hr
         have HM := Lib.hid hm
         have HK := Lib.hid hk2
         have HS2 := Lib.hid (ActAt.kept (w := wa.drew) HA.out hk2 (fun c => c.elim (fun d => HF.out.1.1 d.symm) (fun d => HF.out.1.2 d.symm)))
         clear hr hm hk2 H)
      | (go_at_call 43
         refine (HT.out.2.2 _ _ _ HR.out).mono ?_
         rintro e w3 H
         obtain ⟨rfl, B3⟩ := HB.out.ref_was HM.out HK.out HT.out.1 H
         have HS3 := Lib.hid (ActAt.kept HS2.out H.2.2 (fun c => c.elim (fun d => HF.out.2.1 d.symm) (fun d => HF.out.2.2 d.symm)))
         have HB3 := Lib.hid B3
         clear B3 H))
  clear hw8
  go_wp2_with fail
  all_goals (first | go_ret | skip)
  all_goals exact ⟨rfl, _, _, HB3.out⟩
set_option maxHeartbeats 2000000 in
set_option maxRecDepth 100000 in
theorem does_12 {W w : World} {p g p2 g2 : Nat} {bs : List UInt8} {h : Nat} (B : Both W w p g p2 g2 bs h) (k x y z : Int) (h0 : 0 ≤ k) (hk : k % 13 = 12) :
    Calls Try.prog 29 #[.pointer (some ⟨p, 0, none⟩), .pointer (some ⟨p2, 0, none⟩), actV k x y z] w (Done W p g p2 g2) := by
  have HF := Lib.hid B.far
  have HB := Lib.hid (B.kept ((Kept.refl _ w).alloc (.cells (actCells k x y z) 63)))
  have c0 := HB.out.ref.slice_
  have c1 := HB.out.ref.here_
  have HH := Lib.hid (fun w p g M => here_any (p := p) (g := g) (bs := bs) (h := h) w M)
  have HZ := Lib.hid (fun w p g M => size_any (p := p) (g := g) (bs := bs) (h := h) w M)
  clear B
  unfold actV actCells at *
  go_enter Try.func29, Try.ntmps29
  try simp only [List.append]
  go_wp2_with fail
  generalize w.alloc (Obj.cells #[.int .u8 k, .int .i64 x, .int .i64 y, .int .i64 z] 63) = wa at *
  generalize w.heap.size = b at *
  clear w
  have hbe : ((h : Int) == (h : Int)) = true := by simp
  go_quiet (first
    | (go_at_call 22; exact quiet_left (HH.out _ _ _ (HB.out.mem.drewN _)))
    | (go_at_call 23; exact quiet_left (HZ.out _ _ _ (HB.out.mem.drewN _))))
  go_wp2_with fail
  all_goals (first | go_ret | skip)
  all_goals exact ⟨rfl, _, _, HB.out.kept ((Kept.refl _ _).drewN _)⟩
theorem does_any {W w : World} {p g p2 g2 : Nat} {bs : List UInt8} {h : Nat} (B : Both W w p g p2 g2 bs h) (k x y z : Int) (h0 : 0 ≤ k) :
    Calls Try.prog 29 #[.pointer (some ⟨p, 0, none⟩), .pointer (some ⟨p2, 0, none⟩), actV k x y z] w (Done W p g p2 g2) := by
  rcases (show k % 13 = 0 ∨ k % 13 = 1 ∨ k % 13 = 2 ∨ k % 13 = 3 ∨ k % 13 = 4 ∨ k % 13 = 5 ∨ k % 13 = 6 ∨ k % 13 = 7 ∨ k % 13 = 8 ∨ k % 13 = 9 ∨ k % 13 = 10 ∨ k % 13 = 11 ∨ k % 13 = 12 by omega) with e | e | e | e | e | e | e | e | e | e | e | e | e
  · exact does_0 B k x y z h0 e
  · exact does_1 B k x y z h0 e
  · exact does_2 B k x y z h0 e
  · exact does_3 B k x y z h0 e
  · exact does_4 B k x y z h0 e
  · exact does_5 B k x y z h0 e
  · exact does_6 B k x y z h0 e
  · exact does_7 B k x y z h0 e
  · exact does_8 B k x y z h0 e
  · exact does_9 B k x y z h0 e
  · exact does_10 B k x y z h0 e
  · exact does_11 B k x y z h0 e
  · exact does_12 B k x y z h0 e
end Go.Proofs.Ytaaebgdlmhpdkaa
