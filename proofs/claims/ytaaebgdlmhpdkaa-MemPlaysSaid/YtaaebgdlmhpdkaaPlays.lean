/- The walk of MemPlays: for any size and any acts it returns true and changes nothing that was there. -/
import Derived.Test.YtaaebgdlmhpdkaaDoes
namespace Go.Proofs.Ytaaebgdlmhpdkaa
open Go.RowKit
/-- A row of acts that came in. -/
def ActsIn (w : World) (a : Option Addr) (len cap : Nat) : Prop :=
  (a = none ∧ len = 0 ∧ cap = 0) ∨
  ∃ x, a = some x ∧ len ≤ cap ∧ cap ≤ maxLen ∧ ∀ i, i < len → ∃ k y0 y1 y2, 0 ≤ k ∧ w.cell? (x.add (i * 4)) = some (.int .u8 k) ∧ w.cell? (x.add (i * 4 + 1)) = some (.int .i64 y0) ∧ w.cell? (x.add (i * 4 + 2)) = some (.int .i64 y1) ∧ w.cell? (x.add (i * 4 + 3)) = some (.int .i64 y2)
theorem acts_le {W : World} {a : Option Addr} {len cap : Nat} (R : ActsIn W a len cap) : len ≤ cap ∧ cap ≤ 9223372036854775807 := by
  rcases R with ⟨rfl, rfl, rfl⟩ | ⟨x, rfl, hl, hm, hc⟩
  · omega
  · exact ⟨hl, hm⟩
theorem acts_at {W w : World} (hB : Below W.heap.size W w) {a : Option Addr} {len cap : Nat} (R : ActsIn W a len cap) (j : Nat) (hj : j < len) :
    ∃ b off k y0 y1 y2, a = some ⟨b, off, none⟩ ∧ 0 ≤ k ∧ w.cell? ⟨b, off + j * 4, none⟩ = some (.int .u8 k) ∧ w.cell? ⟨b, off + j * 4 + 1, none⟩ = some (.int .i64 y0) ∧ w.cell? ⟨b, off + j * 4 + 2, none⟩ = some (.int .i64 y1) ∧ w.cell? ⟨b, off + j * 4 + 3, none⟩ = some (.int .i64 y2) := by
  rcases R with ⟨rfl, rfl, rfl⟩ | ⟨x, rfl, hl, hm, hc⟩
  · omega
  · obtain ⟨k, y0, y1, y2, h0, c0, c1, c2, c3⟩ := hc j hj
    obtain ⟨b, off, spot⟩ := x
    obtain ⟨_, _, _, _, _, d0, _⟩ := hc 0 (by omega)
    have hs : spot = none := by simpa [Addr.add] using World.cell?_spot d0
    subst hs
    have ha : ∀ n, (⟨b, off, none⟩ : Addr).add n = ⟨b, off + n, none⟩ := by intro n; unfold Addr.add; split <;> simp_all
    rw [ha] at c0 c1 c2 c3
    exact ⟨b, off, k, y0, y1, y2, rfl, h0, (hB.cell (cell_lt c0)).trans c0, by rw [Nat.add_assoc]; exact (hB.cell (cell_lt c1)).trans c1, by rw [Nat.add_assoc]; exact (hB.cell (cell_lt c2)).trans c2, by rw [Nat.add_assoc]; exact (hB.cell (cell_lt c3)).trans c3⟩
theorem few_any {W w : World} {a : Option Addr} {len cap : Nat} (R : ActsIn W a len cap) :
    Calls Try.prog 28 #[.slice a len cap] w fun e w' => e = .returned (.slice a (min len 60) cap) ∧ w = w' := by
  obtain ⟨l1, l2⟩ := acts_le R
  rcases R with ⟨rfl, rfl, rfl⟩ | ⟨x, rfl, hl, hm, hc⟩
  · go_enter Try.func28, Try.ntmps28
    go_wp2
    all_goals (first | (go_ret; exact ⟨rfl, rfl⟩) | exact ⟨rfl, rfl⟩)
  · clear hc hm
    rcases Nat.lt_or_ge 60 len with h | h
    · rw [show min len 60 = 60 by omega]
      go_enter Try.func28, Try.ntmps28
      go_wp2
      all_goals (first | (go_ret; exact ⟨rfl, rfl⟩) | exact ⟨rfl, rfl⟩)
    · rw [show min len 60 = len by omega]
      go_enter Try.func28, Try.ntmps28
      go_wp2
      all_goals (first | (go_ret; exact ⟨rfl, rfl⟩) | exact ⟨rfl, rfl⟩)
-- WALK
set_option maxHeartbeats 2000000 in
set_option maxRecDepth 100000 in
theorem plays_no (size : Int) (a : Option Addr) (len cap : Nat) (W : World) (hw : (Lit.int .u16 size).wf = true) (hn : size % 4096 < 1024 ∨ ¬ size % 4096 % 8 = 0) :
    Calls Try.prog 9 #[.int .u16 size, .slice a len cap] W fun e w' => e = .returned (.bool true) ∧ Below W.heap.size W w' := by
  have hB := Below.refl W.heap.size W
  obtain ⟨z1, z2⟩ := wf_u16 hw
  clear hw
  have HN := Lib.hid (fun w => new_no w (size % 4096) (by rw [Int.tmod_eq_emod_of_nonneg (by omega)]; omega))
  have HN2 := Lib.hid (fun w => rnew_no w (size % 4096) (by rw [Int.tmod_eq_emod_of_nonneg (by omega)]; omega))
  clear hn
  go_enter Try.func9, Try.ntmps9
  try simp only [List.append]
  go_wp2_with fail
  refine (shown_ok W _ hB).mono ?_
  clear hB
  rintro e w1 ⟨rfl, hB⟩
  go_wp2_with fail
  refine (HN.out _).mono ?_
  rintro e w2 ⟨rfl, rfl⟩
  go_wp2_with fail
  refine (HN2.out _).mono ?_
  rintro e w2 ⟨rfl, rfl⟩
  go_wp2_with fail
  all_goals (first | go_ret | skip)
  all_goals exact ⟨rfl, hB⟩
theorem both_new {W w0 w1 w2 : World} {p g p2 g2 n : Nat} (hB : Below W.heap.size W w0) (hp : w0.heap.size ≤ p) (hg : w0.heap.size ≤ g) (M : MemIs w1 p g (List.replicate n 0) 0) (K : Kept (fun _ => False) w0 w1)
    (hp2 : w1.heap.size ≤ p2) (hg2 : w1.heap.size ≤ g2) (R : RefIs w2 p2 g2 (List.replicate n 0) 0) (K2 : Kept (fun _ => False) w1 w2) : Both W w2 p g p2 g2 (List.replicate n 0) 0 := by
  have h1 := hB.size
  have h2 := K.size
  have h3 := M.lt
  have b1 := K.below hB hB.size (fun _ x => x.elim)
  exact ⟨M.kept K2 (fun x => x) (fun x => x), R, K2.below b1 b1.size (fun _ x => x.elim), by omega, by omega, by omega⟩
set_option maxHeartbeats 2000000 in
set_option maxRecDepth 100000 in
theorem plays_ok (size : Int) (a : Option Addr) (len cap : Nat) (W : World) (R : ActsIn W a len cap) (n : Nat) (hn0 : size % 4096 = (n : Int)) (z1 : 0 ≤ size) (z2 : size ≤ 65535) (hn1 : 1024 ≤ n) (_hn2 : n ≤ 4096) (hn3 : n % 8 = 0)  :
    Calls Try.prog 9 #[.int .u16 size, .slice a len cap] W fun e w' => e = .returned (.bool true) ∧ Below W.heap.size W w' := by
  have hB := Below.refl W.heap.size W
  obtain ⟨l1, l2⟩ := acts_le R
  have HR := Lib.hid R
  have HN := Lib.hid (fun w => new_ok w n hn1 (by omega) hn3)
  have HN2 := Lib.hid (fun w => rnew_ok w n hn1 (by omega) hn3)
  clear R
  go_enter Try.func9, Try.ntmps9
  try simp only [List.append]
  go_wp2_with fail
  refine (shown_ok W _ hB).mono ?_
  clear hB
  rintro e w1 ⟨rfl, hB⟩
  go_wp2_with fail
  refine (HN.out _).mono ?_
  rintro e w2 ⟨p, g, rfl, hp, hg, M, K⟩
  have HM := Lib.hid M
  have HK := Lib.hid K
  clear M K
  go_wp2_with fail
  refine (HN2.out _).mono ?_
  rintro e w3 ⟨p2, g2, rfl, hp2, hg2, M2, K2⟩
  have HB := Lib.hid (both_new hB hp hg HM.out HK.out hp2 hg2 M2 K2)
  clear M2 K2 HM HK hp hg hp2 hg2 hB
  go_wp2_with fail
  refine (few_any HR.out).mono ?_
  rintro e w4 ⟨rfl, rfl⟩
  have hm : min len 60 ≤ len := by omega
  generalize min len 60 = m at *
  clear HN HN2
  generalize List.replicate n 0 = bs0 at *
  go_wp2_with fail
  go_loopw [43] (fun i wr => ∃ (j : Nat) (cs : List UInt8) (q : Nat), j ≤ m ∧ i = .int .i64 j ∧ Both W wr p g p2 g2 cs q) (fun i _ => m - (intOf i).toNat)
  case atStart => exact ⟨0, _, _, by omega, rfl, HB.out⟩
  case round =>
    obtain ⟨j, cs, q, hj, rfl, B⟩ := hrel
    by_cases hlt : j < m
    · obtain ⟨b, off, k, y0, y1, y2, rfl, h0, c0, c1, c2, c3⟩ := acts_at B.below HR.out j (by omega)
      have HB2 := Lib.hid B
      clear B
      go_wp2_with fail
      refine (does_any (HB2.out.kept ((Kept.refl _ _).alloc _)) k y0 y1 y2 h0).mono ?_
      rintro e w5 ⟨rfl, cs2, q2, B5⟩
      have HB5 := Lib.hid B5
      clear B5
      go_wp2_with fail
      go_roundw
      case rel => exact ⟨j + 1, _, _, by omega, by go_num, HB5.out⟩
      case measure => simp [intOf]; omega
    · have hjm : j = m := by omega
      subst hjm
      have HH := Lib.hid (fun w p g M => here_any (p := p) (g := g) (bs := cs) (h := q) w M)
      have HZ := Lib.hid (fun w p g M => all_any (p := p) (g := g) (bs := cs) (h := q) w M)
      have c0 := B.ref.slice_
      have c1 := B.ref.here_
      have hcv := fun n => rtext_conv (B.ref.drewN n) 0 cs.length cs.length (by omega)
      rw [show seg cs 0 cs.length = cs by simp [seg]] at hcv
      obtain ⟨s, hs⟩ : ∃ s : ByteArray, strOf cs = .string s := ⟨_, rfl⟩
      rw [hs] at hcv HZ
      clear hs
      have HB2 := Lib.hid B
      clear B
      have hbe : ((q : Int) == (q : Int)) = true := by simp
      go_wp2_with fail
      go_quiet (first
        | (go_at_call 22; exact quiet_left (HH.out _ _ _ (HB2.out.mem.drewN _)))
        | (go_at_call 15; exact quiet_left (HZ.out _ _ _ (HB2.out.mem.drewN _))))
      go_wp2_with fail
      all_goals (first | go_ret | skip)
      all_goals exact ⟨rfl, (HB2.out.kept ((Kept.refl _ _).drewN _)).below⟩
theorem walk_MemPlays (size : Int) (a : Option Addr) (len cap : Nat) (W : World) (hw : (Lit.int .u16 size).wf = true) (R : ActsIn W a len cap) :
    Calls Try.prog 9 #[.int .u16 size, .slice a len cap] W fun e w' => e = .returned (.bool true) ∧ Below W.heap.size W w' := by
  obtain ⟨z1, z2⟩ := wf_u16 hw
  by_cases hn : size % 4096 < 1024 ∨ ¬ size % 4096 % 8 = 0
  · exact plays_no size a len cap W hw hn
  · exact plays_ok size a len cap W R (size % 4096).toNat (by omega) z1 z2 (by omega) (by omega) (by omega)
end Go.Proofs.Ytaaebgdlmhpdkaa
