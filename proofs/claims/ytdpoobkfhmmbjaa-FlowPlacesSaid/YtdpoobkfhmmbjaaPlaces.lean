/- The walk of FlowPlaces. -/
import Derived.Test.YtdpoobkfhmmbjaaMade
import Derived.Deep.RegionHeld3
import Derived.Deep.RegionWith
namespace Go.Proofs.Ytdpoobkfhmmbjaa
open Go.RowKit
instance (x : I3) : Decidable (Tellable x) := by unfold Tellable; infer_instance
def cdM (ns : List Int) (k : Nat) : List I3 := (stM ns k ns.length).1
def madeS (ns : List Int) (k : Nat) : ByteArray := outN (cdM ns k ++ [(15, 0, 0)]) (ns.getD (ns.length - 1) 0) k ((cdM ns k).length + 1)
theorem numS_size : ∀ n : Fin 24, (numS n.1).size ≤ 2 := by decide +kernel
theorem made_ns (ns : List Int) (k : Nat) (hk : k ≤ 5) (hn1 : 0 < ns.length) (hn : ns.length ≤ 4) (hfin : (stM ns k ns.length).2 = []) (htell : ∀ x ∈ cdM ns k ++ [((15, 0, 0) : I3)], Tellable x) (W : World) (kb : Nat) (hkb : W.cell? ⟨kb, 0, none⟩ = some (.int .i64 (k : Int))) :
    Calls Try.prog 11 #[.slice (some ⟨W.heap.size, 0, none⟩) ns.length ns.length, .pointer (some ⟨kb, 0, none⟩)] (W.alloc (.cells (ns.map intV).toArray 3)) fun e w' => e = .returned (.string (madeS ns k)) ∧ Kept NB W w' := by
  have hb := (MapKept.heap_alloc W (.cells (ns.map intV).toArray 3)).1
  refine (made_any ns k _ W.heap.size ns.length kb hk hn1 hn (Nat.le_refl _) (by simp only [maxLen]; omega) (fun i hi => ?_) (cell_farN ((Kept.refl NB W).alloc _) _ _ hkb (fun _ _ h => h)) (cdM ns k) (by rw [cdM, ← hfin]) _ rfl htell _ rfl).mono fun e w' ⟨he, hK⟩ => ⟨he, ((Kept.refl NB W).alloc _).trans hK⟩
  rw [cell_block hb]
  simp [intV, List.getD_eq_getElem?_getD, hi]
theorem fin1 (k : Nat) (hk : k ≤ 5) : (stM [1, 2, 3] k 3).2 = [] ∧ ∀ x ∈ cdM [1, 2, 3] k ++ [((15, 0, 0) : I3)], Tellable x := by
  match k, hk with
  | 0, _ | 1, _ | 2, _ | 3, _ | 4, _ | 5, _ => exact ⟨rfl, by decide +kernel⟩
  | k + 6, h => exact absurd h (by omega)
theorem fin2 (k : Nat) (hk : k ≤ 5) : (stM [4, 5, 6] k 3).2 = [] ∧ ∀ x ∈ cdM [4, 5, 6] k ++ [((15, 0, 0) : I3)], Tellable x := by
  match k, hk with
  | 0, _ | 1, _ | 2, _ | 3, _ | 4, _ | 5, _ => exact ⟨rfl, by decide +kernel⟩
  | k + 6, h => exact absurd h (by omega)
theorem fin3 (k : Nat) (hk : k ≤ 5) : (stM [4, 7] k 2).2 = [] ∧ ∀ x ∈ cdM [4, 7] k ++ [((15, 0, 0) : I3)], Tellable x := by
  match k, hk with
  | 0, _ | 1, _ | 2, _ | 3, _ | 4, _ | 5, _ => exact ⟨rfl, by decide +kernel⟩
  | k + 6, h => exact absurd h (by omega)
theorem fin4 (k : Nat) (hk : k ≤ 5) : (stM [10, 13, 12] k 3).2 = [] ∧ ∀ x ∈ cdM [10, 13, 12] k ++ [((15, 0, 0) : I3)], Tellable x := by
  match k, hk with
  | 0, _ | 1, _ | 2, _ | 3, _ | 4, _ | 5, _ => exact ⟨rfl, by decide +kernel⟩
  | k + 6, h => exact absurd h (by omega)
theorem fin5 (k : Nat) (hk : k ≤ 5) : (stM [14, 15, 16, 17] k 4).2 = [] ∧ ∀ x ∈ cdM [14, 15, 16, 17] k ++ [((15, 0, 0) : I3)], Tellable x := by
  match k, hk with
  | 0, _ | 1, _ | 2, _ | 3, _ | 4, _ | 5, _ => exact ⟨rfl, by decide +kernel⟩
  | k + 6, h => exact absurd h (by omega)
theorem eq1 (k : Nat) (hk : k ≤ 5) : madeS [1, 2, 3] k = (⟨#[122, 101, 114, 111, 32]⟩ : ByteArray) ++ numS (2 + k) ++ (⟨#[32, 106, 117, 109, 112, 32]⟩ : ByteArray) ++ numS (2 + 2 * k) ++ (⟨#[32, 101, 120, 105, 116, 32, 48, 32]⟩ : ByteArray) := by
  match k, hk with
  | 0, _ | 1, _ | 2, _ | 3, _ | 4, _ | 5, _ => decide +kernel
  | k + 6, h => exact absurd h (by omega)
theorem eq2 (k : Nat) (hk : k ≤ 5) : madeS [4, 5, 6] k = (⟨#[122, 101, 114, 111, 32]⟩ : ByteArray) ++ numS (2 + 2 * k) ++ (⟨#[32, 106, 117, 109, 112, 32, 48, 32, 101, 120, 105, 116, 32, 48, 32]⟩ : ByteArray) := by
  match k, hk with
  | 0, _ | 1, _ | 2, _ | 3, _ | 4, _ | 5, _ => decide +kernel
  | k + 6, h => exact absurd h (by omega)
theorem eq3 (k : Nat) (hk : k ≤ 5) : madeS [4, 7] k = (⟨#[122, 101, 114, 111, 32, 48, 32, 101, 120, 105, 116, 32, 48, 32]⟩ : ByteArray) := by
  match k, hk with
  | 0, _ | 1, _ | 2, _ | 3, _ | 4, _ | 5, _ => decide +kernel
  | k + 6, h => exact absurd h (by omega)
theorem eq4 (k : Nat) (hk : k ≤ 5) : madeS [10, 13, 12] k = (⟨#[113, 100, 111, 32]⟩ : ByteArray) ++ numS (3 + 2 * k) ++ (⟨#[32, 108, 101, 97, 118, 101, 32]⟩ : ByteArray) ++ numS (3 + 2 * k) ++ (⟨#[32, 112, 108, 117, 115, 32, 49, 32, 101, 120, 105, 116, 32, 48, 32]⟩ : ByteArray) := by
  match k, hk with
  | 0, _ | 1, _ | 2, _ | 3, _ | 4, _ | 5, _ => decide +kernel
  | k + 6, h => exact absurd h (by omega)
theorem eq5 (k : Nat) (hk : k ≤ 5) : madeS [14, 15, 16, 17] k = (⟨#[111, 102, 32]⟩ : ByteArray) ++ numS (2 + 2 * k) ++ (⟨#[32, 106, 117, 109, 112, 32]⟩ : ByteArray) ++ numS (3 + 3 * k) ++ (⟨#[32, 100, 114, 111, 112, 32, 48, 32, 101, 120, 105, 116, 32, 48, 32]⟩ : ByteArray) := by
  match k, hk with
  | 0, _ | 1, _ | 2, _ | 3, _ | 4, _ | 5, _ => decide +kernel
  | k + 6, h => exact absurd h (by omega)
set_option maxRecDepth 100000 in
set_option maxHeartbeats 16000000 in
theorem walk_FlowPlaces (many : Int) (w0 : (Lit.int .u8 many).wf = true) (w : World) :
    Calls Try.prog 3 #[.int .u8 many] w fun e w' => e = .returned (.bool true) ∧ Below w.heap.size w w' := by
  have hm : 0 ≤ many ∧ many < 256 := by simp [Lit.wf, IntKind.min, IntKind.max, IntKind.signed, IntKind.bits] at w0; omega
  clear w0
  obtain ⟨k, hkk⟩ : ∃ k : Nat, many.tmod 6 = (k : Int) := ⟨(many.tmod 6).toNat, by rw [Int.tmod_eq_emod_of_nonneg hm.1]; omega⟩
  have hk : k ≤ 5 := by rw [Int.tmod_eq_emod_of_nonneg hm.1] at hkk; omega
  have hw64 : IntKind.i64.wrap (k : Int) = (k : Int) := IntWalk.i64_in _ (by omega)
  have HSH := Lib.hid (shown_any w)
  clear hm
  go_enter Try.func3, Try.ntmps3
  try simp only [List.append]
  go_wp2_with fail
  refine HSH.out.mono ?_
  rintro e v1 ⟨rfl, K⟩
  obtain ⟨U, hU⟩ : ∃ U, v1.alloc (.cells #[.int .i64 (k : Int)] 3) = U := ⟨_, rfl⟩
  have HK0 := Lib.hid (show Kept NB w U by rw [← hU]; exact K.alloc _)
  have HKC := Lib.hid (fun (W : World) (KW : Kept NB U W) => show W.cell? ⟨v1.heap.size, 0, none⟩ = some (.int .i64 (k : Int)) from cell_farN KW _ _ (by rw [← hU, cell_block (MapKept.heap_alloc v1 _).1]; rfl) (fun _ _ h => h))
  have M1 := Lib.hid (fun (W : World) (KW : Kept NB U W) => show Calls Try.prog 11 #[.slice (some ⟨W.heap.size, 0, none⟩) 3 3, .pointer (some ⟨v1.heap.size, 0, none⟩)] (W.alloc (.cells #[.int .i64 1, .int .i64 2, .int .i64 3] 3)) (fun e w' => e = .returned (.string ((⟨#[122, 101, 114, 111, 32]⟩ : ByteArray) ++ numS (2 + k) ++ (⟨#[32, 106, 117, 109, 112, 32]⟩ : ByteArray) ++ numS (2 + 2 * k) ++ (⟨#[32, 101, 120, 105, 116, 32, 48, 32]⟩ : ByteArray))) ∧ Kept NB W w') by
    rw [← eq1 k hk]; exact made_ns [1, 2, 3] k hk (by decide) (by decide) (fin1 k hk).1 (fin1 k hk).2 W v1.heap.size (HKC.out W KW))
  have M2 := Lib.hid (fun (W : World) (KW : Kept NB U W) => show Calls Try.prog 11 #[.slice (some ⟨W.heap.size, 0, none⟩) 3 3, .pointer (some ⟨v1.heap.size, 0, none⟩)] (W.alloc (.cells #[.int .i64 4, .int .i64 5, .int .i64 6] 3)) (fun e w' => e = .returned (.string ((⟨#[122, 101, 114, 111, 32]⟩ : ByteArray) ++ numS (2 + 2 * k) ++ (⟨#[32, 106, 117, 109, 112, 32, 48, 32, 101, 120, 105, 116, 32, 48, 32]⟩ : ByteArray))) ∧ Kept NB W w') by
    rw [← eq2 k hk]; exact made_ns [4, 5, 6] k hk (by decide) (by decide) (fin2 k hk).1 (fin2 k hk).2 W v1.heap.size (HKC.out W KW))
  have M3 := Lib.hid (fun (W : World) (KW : Kept NB U W) => show Calls Try.prog 11 #[.slice (some ⟨W.heap.size, 0, none⟩) 2 2, .pointer (some ⟨v1.heap.size, 0, none⟩)] (W.alloc (.cells #[.int .i64 4, .int .i64 7] 3)) (fun e w' => e = .returned (.string ((⟨#[122, 101, 114, 111, 32, 48, 32, 101, 120, 105, 116, 32, 48, 32]⟩ : ByteArray))) ∧ Kept NB W w') by
    rw [← eq3 k hk]; exact made_ns [4, 7] k hk (by decide) (by decide) (fin3 k hk).1 (fin3 k hk).2 W v1.heap.size (HKC.out W KW))
  have M4 := Lib.hid (fun (W : World) (KW : Kept NB U W) => show Calls Try.prog 11 #[.slice (some ⟨W.heap.size, 0, none⟩) 3 3, .pointer (some ⟨v1.heap.size, 0, none⟩)] (W.alloc (.cells #[.int .i64 10, .int .i64 13, .int .i64 12] 3)) (fun e w' => e = .returned (.string ((⟨#[113, 100, 111, 32]⟩ : ByteArray) ++ numS (3 + 2 * k) ++ (⟨#[32, 108, 101, 97, 118, 101, 32]⟩ : ByteArray) ++ numS (3 + 2 * k) ++ (⟨#[32, 112, 108, 117, 115, 32, 49, 32, 101, 120, 105, 116, 32, 48, 32]⟩ : ByteArray))) ∧ Kept NB W w') by
    rw [← eq4 k hk]; exact made_ns [10, 13, 12] k hk (by decide) (by decide) (fin4 k hk).1 (fin4 k hk).2 W v1.heap.size (HKC.out W KW))
  have M5 := Lib.hid (fun (W : World) (KW : Kept NB U W) => show Calls Try.prog 11 #[.slice (some ⟨W.heap.size, 0, none⟩) 4 4, .pointer (some ⟨v1.heap.size, 0, none⟩)] (W.alloc (.cells #[.int .i64 14, .int .i64 15, .int .i64 16, .int .i64 17] 3)) (fun e w' => e = .returned (.string ((⟨#[111, 102, 32]⟩ : ByteArray) ++ numS (2 + 2 * k) ++ (⟨#[32, 106, 117, 109, 112, 32]⟩ : ByteArray) ++ numS (3 + 3 * k) ++ (⟨#[32, 100, 114, 111, 112, 32, 48, 32, 101, 120, 105, 116, 32, 48, 32]⟩ : ByteArray))) ∧ Kept NB W w') by
    rw [← eq5 k hk]; exact made_ns [14, 15, 16, 17] k hk (by decide) (by decide) (fin5 k hk).1 (fin5 k hk).2 W v1.heap.size (HKC.out W KW))
  have QN1 := Lib.hid (fun (W : World) => show Calls Try.prog 17 #[.int .i64 (2 + (k : Int))] W (fun e w' => e = .returned (.string (numS (2 + k))) ∧ Kept NB W w') by
    rw [show (2 + (k : Int)) = ((2 + k : Nat) : Int) by omega]; exact num_any _ (by omega) W)
  have zN1 := numS_size ⟨2 + k, by omega⟩
  dsimp only at zN1
  have QN2 := Lib.hid (fun (W : World) => show Calls Try.prog 17 #[.int .i64 (2 + 2 * (k : Int))] W (fun e w' => e = .returned (.string (numS (2 + 2 * k))) ∧ Kept NB W w') by
    rw [show (2 + 2 * (k : Int)) = ((2 + 2 * k : Nat) : Int) by omega]; exact num_any _ (by omega) W)
  have zN2 := numS_size ⟨2 + 2 * k, by omega⟩
  dsimp only at zN2
  have QN3 := Lib.hid (fun (W : World) => show Calls Try.prog 17 #[.int .i64 (3 + 2 * (k : Int))] W (fun e w' => e = .returned (.string (numS (3 + 2 * k))) ∧ Kept NB W w') by
    rw [show (3 + 2 * (k : Int)) = ((3 + 2 * k : Nat) : Int) by omega]; exact num_any _ (by omega) W)
  have zN3 := numS_size ⟨3 + 2 * k, by omega⟩
  dsimp only at zN3
  have QN4 := Lib.hid (fun (W : World) => show Calls Try.prog 17 #[.int .i64 (3 + 3 * (k : Int))] W (fun e w' => e = .returned (.string (numS (3 + 3 * k))) ∧ Kept NB W w') by
    rw [show (3 + 3 * (k : Int)) = ((3 + 3 * k : Nat) : Int) by omega]; exact num_any _ (by omega) W)
  have zN4 := numS_size ⟨3 + 3 * k, by omega⟩
  dsimp only at zN4
  generalize numS (2 + k) = N1 at *
  generalize numS (2 + 2 * k) = N2 at *
  generalize numS (3 + 2 * k) = N3 at *
  generalize numS (3 + 3 * k) = N4 at *
  clear K
  go_wp2_with fail
  have hcat0 : ¬ 9223372036854775807 < 5 + N1.size := by omega
  have hcat1 : ¬ 9223372036854775807 < 5 + N1.size + 6 := by omega
  have hcat2 : ¬ 9223372036854775807 < 5 + N1.size + 6 + N2.size := by omega
  have hcat3 : ¬ 9223372036854775807 < 5 + N1.size + 6 + N2.size + 8 := by omega
  have hcat4 : ¬ 9223372036854775807 < 5 + N2.size := by omega
  have hcat5 : ¬ 9223372036854775807 < 5 + N2.size + 15 := by omega
  have hcat6 : ¬ 9223372036854775807 < 4 + N3.size := by omega
  have hcat7 : ¬ 9223372036854775807 < 4 + N3.size + 7 := by omega
  have hcat8 : ¬ 9223372036854775807 < 4 + N3.size + 7 + N3.size := by omega
  have hcat9 : ¬ 9223372036854775807 < 4 + N3.size + 7 + N3.size + 15 := by omega
  have hcat10 : ¬ 9223372036854775807 < 3 + N2.size := by omega
  have hcat11 : ¬ 9223372036854775807 < 3 + N2.size + 6 := by omega
  have hcat12 : ¬ 9223372036854775807 < 3 + N2.size + 6 + N4.size := by omega
  have hcat13 : ¬ 9223372036854775807 < 3 + N2.size + 6 + N4.size + 15 := by omega
  clear hw64
  have hwx0 : IntKind.i64.wrap (2 + (k : Int)) = 2 + (k : Int) := IntWalk.i64_in _ (by omega)
  have hwx1 : IntKind.i64.wrap (2 * (k : Int)) = 2 * (k : Int) := IntWalk.i64_in _ (by omega)
  have hwx2 : IntKind.i64.wrap (2 + 2 * (k : Int)) = 2 + 2 * (k : Int) := IntWalk.i64_in _ (by omega)
  have hwx3 : IntKind.i64.wrap (3 + 2 * (k : Int)) = 3 + 2 * (k : Int) := IntWalk.i64_in _ (by omega)
  have hwx4 : IntKind.i64.wrap (3 * (k : Int)) = 3 * (k : Int) := IntWalk.i64_in _ (by omega)
  have hwx5 : IntKind.i64.wrap (3 + 3 * (k : Int)) = 3 + 3 * (k : Int) := IntWalk.i64_in _ (by omega)
  have QC0 := QN1
  have QC1 := QN2
  have QC2 := QN2
  have QC3 := QN3
  have QC4 := QN3
  have QC5 := QN2
  have QC6 := QN4
  clear QN1 QN2 QN3 QN4
  have HK := Lib.hid ((Kept.refl NB U).drew)
  go_region_held3 (fun w' => w'.cell? ⟨v1.heap.size, 0, none⟩ = some (.int .i64 (k : Int)))
    (first | exact HKC.out _ HK.out | exact HKC.out _ (HK.out.alloc _))
    (first
      | (go_at_call 11; refine (M1.out _ HK.out).mono ?_; rintro e u1 ⟨rfl, K⟩
         replace HK := Lib.hid (HK.out.trans K)
         clear K M1)
      | (go_at_call 11; refine (M2.out _ HK.out).mono ?_; rintro e u2 ⟨rfl, K⟩
         replace HK := Lib.hid (HK.out.trans K)
         clear K M2)
      | (go_at_call 11; refine (M3.out _ HK.out).mono ?_; rintro e u3 ⟨rfl, K⟩
         replace HK := Lib.hid (HK.out.trans K)
         clear K M3)
      | (go_at_call 11; refine (M4.out _ HK.out).mono ?_; rintro e u4 ⟨rfl, K⟩
         replace HK := Lib.hid (HK.out.trans K)
         clear K M4)
      | (go_at_call 11; refine (M5.out _ HK.out).mono ?_; rintro e u5 ⟨rfl, K⟩
         replace HK := Lib.hid (HK.out.trans K)
         clear K M5)
      | (go_at_call 17; refine (QC0.out _).mono ?_; rintro e uq0 ⟨rfl, K⟩
         replace HK := Lib.hid (HK.out.trans K)
         clear K QC0)
      | (go_at_call 17; refine (QC1.out _).mono ?_; rintro e uq1 ⟨rfl, K⟩
         replace HK := Lib.hid (HK.out.trans K)
         clear K QC1)
      | (go_at_call 17; refine (QC2.out _).mono ?_; rintro e uq2 ⟨rfl, K⟩
         replace HK := Lib.hid (HK.out.trans K)
         clear K QC2)
      | (go_at_call 17; refine (QC3.out _).mono ?_; rintro e uq3 ⟨rfl, K⟩
         replace HK := Lib.hid (HK.out.trans K)
         clear K QC3)
      | (go_at_call 17; refine (QC4.out _).mono ?_; rintro e uq4 ⟨rfl, K⟩
         replace HK := Lib.hid (HK.out.trans K)
         clear K QC4)
      | (go_at_call 17; refine (QC5.out _).mono ?_; rintro e uq5 ⟨rfl, K⟩
         replace HK := Lib.hid (HK.out.trans K)
         clear K QC5)
      | (go_at_call 17; refine (QC6.out _).mono ?_; rintro e uq6 ⟨rfl, K⟩
         replace HK := Lib.hid (HK.out.trans K)
         clear K QC6))
  go_wp2_with fail
  all_goals (first | go_ret | skip)
  all_goals exact ⟨rfl, (HK0.out.trans HK.out).below (Below.refl _ _) (Nat.le_refl _) (fun _ h => h.elim)⟩
end Go.Proofs.Ytdpoobkfhmmbjaa
