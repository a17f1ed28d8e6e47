/- The walks of the reference's Do where the word is refused. -/
import Derived.Test.YtdpoobkfhmmbjaaRefDoA
namespace Go.Proofs.Ytdpoobkfhmmbjaa
open Go.RowKit
section
variable {F : Nat → Prop} {w : World} {p : Nat} {vc vp : Value} {code : List I3} {ps : List (Prt × Value)}
set_option maxRecDepth 100000 in
set_option maxHeartbeats 4000000 in
theorem rdo_no (n : Int) (h : n < 1 ∨ 17 < n) : Calls Try.prog 22 #[.pointer (some ⟨p, 0, none⟩), .int .i64 n] w fun e w' => e = .returned (.int .i64 1) ∧ w = w' := by
  rcases h with h | h
  · go_enter Try.func22, Try.ntmps22
    try simp only [List.append]
    go_wp2_with fail
    all_goals (first | go_ret | skip)
    all_goals exact ⟨rfl, rfl⟩
  · have h1 : ¬ n < 1 := by omega
    go_enter Try.func22, Try.ntmps22
    try simp only [List.append]
    go_wp2_with fail
    all_goals (first | go_ret | skip)
    all_goals exact ⟨rfl, rfl⟩
set_option maxRecDepth 100000 in
set_option maxHeartbeats 4000000 in
theorem rdo_ctrl (B : RBld F w p vc vp code ps) (hpl : ps.length < 99) (n : Nat) (h1 : 1 ≤ n) (h2 : n ≤ 17) (h : asksB n (ps.map (·.1)).reverse = false) :
    Calls Try.prog 22 #[.pointer (some ⟨p, 0, none⟩), .int .i64 (n : Int)] w fun e w' => e = .returned (.int .i64 (-22)) ∧ w = w' := by
  have HAS := Lib.hid (show Calls Try.prog 33 #[.pointer (some ⟨p, 0, none⟩), .int .i64 (n : Int)] w fun e w' => e = .returned (.bool false) ∧ w = w' by have := asks_any B.b hpl n h1 h2; rwa [h] at this)
  have g1 : ¬ (n : Int) < 1 := by omega
  have g2 : ¬ (17 : Int) < (n : Int) := by omega
  clear B h hpl
  go_enter Try.func22, Try.ntmps22
  try simp only [List.append]
  go_wp2_with fail
  with_reducible refine HAS.out.mono ?_
  rintro e v0 ⟨rfl, rfl⟩
  go_wp2_with fail
  all_goals (first | go_ret | skip)
  all_goals exact ⟨rfl, rfl⟩
set_option maxRecDepth 100000 in
set_option maxHeartbeats 4000000 in
theorem rdo_room1 (B : RBld F w p vc vp code ps) (hpl : ps.length < 99) (n : Nat) (h1 : 1 ≤ n) (h2 : n ≤ 17) (h : asksB n (ps.map (·.1)).reverse = true) (hl : laysOf n ≠ 0) (hc : 499 ≤ code.length) :
    Calls Try.prog 22 #[.pointer (some ⟨p, 0, none⟩), .int .i64 (n : Int)] w fun e w' => e = .returned (.int .i64 (-8)) ∧ w = w' := by
  have HAS := Lib.hid (show Calls Try.prog 33 #[.pointer (some ⟨p, 0, none⟩), .int .i64 (n : Int)] w fun e w' => e = .returned (.bool true) ∧ w = w' by have := asks_any B.b hpl n h1 h2; rwa [h] at this)
  have HLA := Lib.hid (lays_any n h1 h2 w)
  obtain ⟨a0, c0, hv0, h01, h02, _⟩ := owns_slice B.b.code
  have d0 : w.cell? ⟨p, 0, none⟩ = some (.slice a0 code.length c0) := by rw [cell_block B.b.own, hv0]; rfl
  have g1 : ¬ (n : Int) < 1 := by omega
  have g2 : ¬ (17 : Int) < (n : Int) := by omega
  generalize laysOf n = op at *
  have b1 : (op == 0) = false := by simpa using hl
  have b2 : (op != 0) = true := by simpa using hl
  clear B h hpl hv0 hl
  go_enter Try.func22, Try.ntmps22
  try simp only [List.append]
  go_wp2_with fail
  with_reducible refine HAS.out.mono ?_
  rintro e v0 ⟨rfl, rfl⟩
  go_wp2_with fail
  with_reducible refine HLA.out.mono ?_
  rintro e v0 ⟨rfl, rfl⟩
  go_wp2_with fail
  all_goals (first | go_ret | skip)
  all_goals exact ⟨rfl, rfl⟩
set_option maxRecDepth 100000 in
set_option maxHeartbeats 4000000 in
theorem rdo_room2 (B : RBld F w p vc vp code ps) (hpl : ps.length < 99) (n : Nat) (h1 : 1 ≤ n) (h2 : n ≤ 17) (h : asksB n (ps.map (·.1)).reverse = true) (hl : laysOf n = 0) (hm : opensB n = true) (hc : 32 ≤ ps.length) :
    Calls Try.prog 22 #[.pointer (some ⟨p, 0, none⟩), .int .i64 (n : Int)] w fun e w' => e = .returned (.int .i64 (-8)) ∧ w = w' := by
  have HAS := Lib.hid (show Calls Try.prog 33 #[.pointer (some ⟨p, 0, none⟩), .int .i64 (n : Int)] w fun e w' => e = .returned (.bool true) ∧ w = w' by have := asks_any B.b hpl n h1 h2; rwa [h] at this)
  have HLA := Lib.hid (show Calls Try.prog 34 #[.int .i64 (n : Int)] w fun e w' => e = .returned (.int .u8 0) ∧ w = w' by have := lays_any n h1 h2 w; rwa [hl] at this)
  have HOP := Lib.hid (show Calls Try.prog 35 #[.int .i64 (n : Int)] w fun e w' => e = .returned (.bool true) ∧ w = w' by have := opens_any n h1 h2 w; rwa [hm] at this)
  obtain ⟨a1, c1, hv1, h11, h12, _⟩ := owns_slice B.b.parts
  have d1 : w.cell? ⟨p, 1, none⟩ = some (.slice a1 ps.length c1) := by rw [cell_block B.b.own, hv1]; rfl
  have g1 : ¬ (n : Int) < 1 := by omega
  have g2 : ¬ (17 : Int) < (n : Int) := by omega
  clear B h hpl hv1 hl hm
  go_enter Try.func22, Try.ntmps22
  try simp only [List.append]
  go_wp2_with fail
  with_reducible refine HAS.out.mono ?_
  rintro e v0 ⟨rfl, rfl⟩
  go_wp2_with fail
  with_reducible refine HLA.out.mono ?_
  rintro e v0 ⟨rfl, rfl⟩
  go_wp2_with fail
  with_reducible refine HOP.out.mono ?_
  rintro e v0 ⟨rfl, rfl⟩
  go_wp2_with fail
  all_goals (first | go_ret | skip)
  all_goals exact ⟨rfl, rfl⟩
set_option maxRecDepth 100000 in
set_option maxHeartbeats 4000000 in
theorem rdo_room3 (B : RBld F w p vc vp code ps) (hpl : ps.length < 99) (n : Nat) (h1 : 1 ≤ n) (h2 : n ≤ 17) (h : asksB n (ps.map (·.1)).reverse = true) (hl : laysOf n ≠ 0) (hcl : code.length < 499) (hm : opensB n = true) (hc : 32 ≤ ps.length) :
    Calls Try.prog 22 #[.pointer (some ⟨p, 0, none⟩), .int .i64 (n : Int)] w fun e w' => e = .returned (.int .i64 (-8)) ∧ w = w' := by
  have HAS := Lib.hid (show Calls Try.prog 33 #[.pointer (some ⟨p, 0, none⟩), .int .i64 (n : Int)] w fun e w' => e = .returned (.bool true) ∧ w = w' by have := asks_any B.b hpl n h1 h2; rwa [h] at this)
  have HLA := Lib.hid (lays_any n h1 h2 w)
  have HOP := Lib.hid (show Calls Try.prog 35 #[.int .i64 (n : Int)] w fun e w' => e = .returned (.bool true) ∧ w = w' by have := opens_any n h1 h2 w; rwa [hm] at this)
  obtain ⟨a0, c0, hv0, h01, h02, _⟩ := owns_slice B.b.code
  have d0 : w.cell? ⟨p, 0, none⟩ = some (.slice a0 code.length c0) := by rw [cell_block B.b.own, hv0]; rfl
  obtain ⟨a1, c1, hv1, h11, h12, _⟩ := owns_slice B.b.parts
  have d1 : w.cell? ⟨p, 1, none⟩ = some (.slice a1 ps.length c1) := by rw [cell_block B.b.own, hv1]; rfl
  have g1 : ¬ (n : Int) < 1 := by omega
  have g2 : ¬ (17 : Int) < (n : Int) := by omega
  generalize laysOf n = op at *
  have b1 : (op == 0) = false := by simpa using hl
  have b2 : (op != 0) = true := by simpa using hl
  clear B h hpl hv1 hv0 hl hm
  go_enter Try.func22, Try.ntmps22
  try simp only [List.append]
  go_wp2_with fail
  with_reducible refine HAS.out.mono ?_
  rintro e v0 ⟨rfl, rfl⟩
  go_wp2_with fail
  with_reducible refine HLA.out.mono ?_
  rintro e v0 ⟨rfl, rfl⟩
  go_wp2_with fail
  with_reducible refine HOP.out.mono ?_
  rintro e v0 ⟨rfl, rfl⟩
  go_wp2_with fail
  all_goals (first | go_ret | skip)
  all_goals exact ⟨rfl, rfl⟩
end
end Go.Proofs.Ytdpoobkfhmmbjaa
