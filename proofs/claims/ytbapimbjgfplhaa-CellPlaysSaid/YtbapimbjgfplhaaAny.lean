/- cell.Two and cell.One at every op, as one contract each: what twoF, twoE, oneF, oneE say; nothing that was there is changed. No condition. -/
import Derived.Test.YtbapimbjgfplhaaOne
namespace Go.Proofs.Ytbapimbjgfplhaa
open Go.RowKit
def twoF (op a b : Int) : Int :=
  if op = 11 then addF a b else
  if op = 12 then subF a b else
  if op = 13 then mulF a b else
  if op = 14 then (if b = 0 then 0 else qF a b) else
  if op = 15 then (if b = 0 then 0 else rF a b) else
  if op = 16 then andF a b else
  if op = 17 then orF a b else
  if op = 18 then xorF a b else
  if op = 19 then shlF a b else
  if op = 20 then shrF a b else
  if op = 21 then eqF a b else
  if op = 22 then neF a b else
  if op = 23 then ltF a b else
  if op = 24 then gtF a b else
  if op = 25 then ultF a b else
  if op = 26 then minF a b else
  if op = 27 then maxF a b else
  0
def twoE (op b : Int) : Int := if op < 11 ∨ 27 < op then 1 else if b = 0 ∧ (op = 14 ∨ op = 15) then -10 else 0
def oneF (op a : Int) : Int :=
  if op = 1 then negF a else
  if op = 2 then absF a else
  if op = 3 then invF a else
  if op = 4 then incF a else
  if op = 5 then decF a else
  if op = 6 then twF a else
  if op = 7 then hfF a else
  if op = 8 then iszF a else
  if op = 9 then isnF a else
  if op = 10 then nzF a else
  0
def oneE (op : Int) : Int := if op < 1 ∨ 10 < op then 1 else 0
theorem two_all (op a b : Int) (w : World) : Calls Try.prog 11 #[.int .i64 op, .int .i64 a, .int .i64 b] w fun e w' => e = .returned (.tuple #[.int .i64 (twoF op a b), .int .i64 (twoE op b)]) ∧ Below w.heap.size w w' := by
  by_cases h : op < 11 ∨ 27 < op
  · have e1 : twoF op a b = 0 := by
      unfold twoF
      rw [if_neg (by omega)]
      rw [if_neg (by omega)]
      rw [if_neg (by omega)]
      rw [if_neg (by omega)]
      rw [if_neg (by omega)]
      rw [if_neg (by omega)]
      rw [if_neg (by omega)]
      rw [if_neg (by omega)]
      rw [if_neg (by omega)]
      rw [if_neg (by omega)]
      rw [if_neg (by omega)]
      rw [if_neg (by omega)]
      rw [if_neg (by omega)]
      rw [if_neg (by omega)]
      rw [if_neg (by omega)]
      rw [if_neg (by omega)]
      rw [if_neg (by omega)]
    have e2 : twoE op b = 1 := by unfold twoE; rw [if_pos h]
    rw [e1, e2]
    exact two_no op a b w h
  · have h' : op = 11 ∨ op = 12 ∨ op = 13 ∨ op = 14 ∨ op = 15 ∨ op = 16 ∨ op = 17 ∨ op = 18 ∨ op = 19 ∨ op = 20 ∨ op = 21 ∨ op = 22 ∨ op = 23 ∨ op = 24 ∨ op = 25 ∨ op = 26 ∨ op = 27 := by omega
    rcases h' with rfl | rfl | rfl | rfl | rfl | rfl | rfl | rfl | rfl | rfl | rfl | rfl | rfl | rfl | rfl | rfl | rfl
    · have e1 : twoF 11 a b = addF a b := by simp [twoF]
      have e2 : twoE 11 b = 0 := by simp [twoE]
      rw [e1, e2]
      exact two_11 a b w
    · have e1 : twoF 12 a b = subF a b := by simp [twoF]
      have e2 : twoE 12 b = 0 := by simp [twoE]
      rw [e1, e2]
      exact two_12 a b w
    · have e1 : twoF 13 a b = mulF a b := by simp [twoF]
      have e2 : twoE 13 b = 0 := by simp [twoE]
      rw [e1, e2]
      exact two_13 a b w
    · by_cases hb : b = 0
      · subst hb
        exact two_14z a w
      · have e1 : twoF 14 a b = qF a b := by simp [twoF, hb]
        have e2 : twoE 14 b = 0 := by simp [twoE, hb]
        rw [e1, e2]
        exact two_14 a b w hb
    · by_cases hb : b = 0
      · subst hb
        exact two_15z a w
      · have e1 : twoF 15 a b = rF a b := by simp [twoF, hb]
        have e2 : twoE 15 b = 0 := by simp [twoE, hb]
        rw [e1, e2]
        exact two_15 a b w hb
    · have e1 : twoF 16 a b = andF a b := by simp [twoF]
      have e2 : twoE 16 b = 0 := by simp [twoE]
      rw [e1, e2]
      exact two_16 a b w
    · have e1 : twoF 17 a b = orF a b := by simp [twoF]
      have e2 : twoE 17 b = 0 := by simp [twoE]
      rw [e1, e2]
      exact two_17 a b w
    · have e1 : twoF 18 a b = xorF a b := by simp [twoF]
      have e2 : twoE 18 b = 0 := by simp [twoE]
      rw [e1, e2]
      exact two_18 a b w
    · have e1 : twoF 19 a b = shlF a b := by simp [twoF]
      have e2 : twoE 19 b = 0 := by simp [twoE]
      rw [e1, e2]
      exact two_19 a b w
    · have e1 : twoF 20 a b = shrF a b := by simp [twoF]
      have e2 : twoE 20 b = 0 := by simp [twoE]
      rw [e1, e2]
      exact two_20 a b w
    · have e1 : twoF 21 a b = eqF a b := by simp [twoF]
      have e2 : twoE 21 b = 0 := by simp [twoE]
      rw [e1, e2]
      exact two_21 a b w
    · have e1 : twoF 22 a b = neF a b := by simp [twoF]
      have e2 : twoE 22 b = 0 := by simp [twoE]
      rw [e1, e2]
      exact two_22 a b w
    · have e1 : twoF 23 a b = ltF a b := by simp [twoF]
      have e2 : twoE 23 b = 0 := by simp [twoE]
      rw [e1, e2]
      exact two_23 a b w
    · have e1 : twoF 24 a b = gtF a b := by simp [twoF]
      have e2 : twoE 24 b = 0 := by simp [twoE]
      rw [e1, e2]
      exact two_24 a b w
    · have e1 : twoF 25 a b = ultF a b := by simp [twoF]
      have e2 : twoE 25 b = 0 := by simp [twoE]
      rw [e1, e2]
      exact two_25 a b w
    · have e1 : twoF 26 a b = minF a b := by simp [twoF]
      have e2 : twoE 26 b = 0 := by simp [twoE]
      rw [e1, e2]
      exact two_26 a b w
    · have e1 : twoF 27 a b = maxF a b := by simp [twoF]
      have e2 : twoE 27 b = 0 := by simp [twoE]
      rw [e1, e2]
      exact two_27 a b w
theorem one_all (op a : Int) (w : World) : Calls Try.prog 16 #[.int .i64 op, .int .i64 a] w fun e w' => e = .returned (.tuple #[.int .i64 (oneF op a), .int .i64 (oneE op)]) ∧ Below w.heap.size w w' := by
  by_cases h : op < 1 ∨ 10 < op
  · have e1 : oneF op a = 0 := by
      unfold oneF
      rw [if_neg (by omega)]
      rw [if_neg (by omega)]
      rw [if_neg (by omega)]
      rw [if_neg (by omega)]
      rw [if_neg (by omega)]
      rw [if_neg (by omega)]
      rw [if_neg (by omega)]
      rw [if_neg (by omega)]
      rw [if_neg (by omega)]
      rw [if_neg (by omega)]
    have e2 : oneE op = 1 := by unfold oneE; rw [if_pos h]
    rw [e1, e2]
    exact one_no op a w h
  · have h' : op = 1 ∨ op = 2 ∨ op = 3 ∨ op = 4 ∨ op = 5 ∨ op = 6 ∨ op = 7 ∨ op = 8 ∨ op = 9 ∨ op = 10 := by omega
    rcases h' with rfl | rfl | rfl | rfl | rfl | rfl | rfl | rfl | rfl | rfl
    · exact one_1 a w
    · exact one_2 a w
    · exact one_3 a w
    · exact one_4 a w
    · exact one_5 a w
    · exact one_6 a w
    · exact one_7 a w
    · exact one_8 a w
    · exact one_9 a w
    · exact one_10 a w
theorem two_any (W : World) (op a b : Int) (w : World) (h : Below W.heap.size W w) : Calls Try.prog 11 #[.int .i64 op, .int .i64 a, .int .i64 b] w fun e w' => e = .returned (.tuple #[.int .i64 (twoF op a b), .int .i64 (twoE op b)]) ∧ Below W.heap.size W w' :=
  (two_all op a b w).mono fun _ _ ⟨he, hb⟩ => ⟨he, h.trans (hb.mono h.size)⟩
theorem one_any (W : World) (op a : Int) (w : World) (h : Below W.heap.size W w) : Calls Try.prog 16 #[.int .i64 op, .int .i64 a] w fun e w' => e = .returned (.tuple #[.int .i64 (oneF op a), .int .i64 (oneE op)]) ∧ Below W.heap.size W w' :=
  (one_all op a w).mono fun _ _ ⟨he, hb⟩ => ⟨he, h.trans (hb.mono h.size)⟩
theorem shown_ok (W w : World) (h : Below W.heap.size W w) : Calls Try.prog 10 #[] w fun e w' => e = .returned (.bool true) ∧ Below W.heap.size W w' :=
  (shown_any w).mono fun _ _ ⟨he, hb⟩ => ⟨he, h.trans (hb.mono h.size)⟩
theorem clo12 (W : World) (op a b : Int) (w : World) (h : Below W.heap.size W w) : Calls Try.prog 12 #[.int .i64 op, .int .i64 a, .int .i64 b] w fun e w' => e = .returned (.int .i64 (twoF op a b)) ∧ Below W.heap.size W w' := by
  go_enter Try.func12, Try.ntmps12
  go_wp2_with (go_at_call 11; refine (two_any W _ _ _ _ h).mono ?_; rintro e w' ⟨rfl, hB⟩)
  go_ret
  exact ⟨rfl, hB⟩
theorem clo13 (W : World) (op a b : Int) (w : World) (h : Below W.heap.size W w) : Calls Try.prog 13 #[.int .i64 op, .int .i64 a, .int .i64 b] w fun e w' => e = .returned (.int .i64 (twoF op a b)) ∧ Below W.heap.size W w' := by
  go_enter Try.func13, Try.ntmps13
  go_wp2_with (go_at_call 11; refine (two_any W _ _ _ _ h).mono ?_; rintro e w' ⟨rfl, hB⟩)
  go_ret
  exact ⟨rfl, hB⟩
theorem clo14 (W : World) (op a b : Int) (w : World) (h : Below W.heap.size W w) : Calls Try.prog 14 #[.int .i64 op, .int .i64 a, .int .i64 b] w fun e w' => e = .returned (.int .i64 (twoF op a b)) ∧ Below W.heap.size W w' := by
  go_enter Try.func14, Try.ntmps14
  go_wp2_with (go_at_call 11; refine (two_any W _ _ _ _ h).mono ?_; rintro e w' ⟨rfl, hB⟩)
  go_ret
  exact ⟨rfl, hB⟩
theorem clo18 (W : World) (op a b : Int) (w : World) (h : Below W.heap.size W w) : Calls Try.prog 18 #[.int .i64 op, .int .i64 a, .int .i64 b] w fun e w' => e = .returned (.int .i64 (twoF op a b)) ∧ Below W.heap.size W w' := by
  go_enter Try.func18, Try.ntmps18
  go_wp2_with (go_at_call 11; refine (two_any W _ _ _ _ h).mono ?_; rintro e w' ⟨rfl, hB⟩)
  go_ret
  exact ⟨rfl, hB⟩
theorem clo15 (W : World) (a : Int) (w : World) (h : Below W.heap.size W w) : Calls Try.prog 15 #[.int .i64 a] w fun e w' => e = .returned (.int .i64 (oneF 3 a)) ∧ Below W.heap.size W w' := by
  go_enter Try.func15, Try.ntmps15
  go_wp2_with (go_at_call 16; refine (one_any W _ _ _ h).mono ?_; rintro e w' ⟨rfl, hB⟩)
  go_ret
  exact ⟨rfl, hB⟩
theorem clo17 (W : World) (op a : Int) (w : World) (h : Below W.heap.size W w) : Calls Try.prog 17 #[.int .i64 op, .int .i64 a] w fun e w' => e = .returned (.int .i64 (oneF op a)) ∧ Below W.heap.size W w' := by
  go_enter Try.func17, Try.ntmps17
  go_wp2_with (go_at_call 16; refine (one_any W _ _ _ h).mono ?_; rintro e w' ⟨rfl, hB⟩)
  go_ret
  exact ⟨rfl, hB⟩
end Go.Proofs.Ytbapimbjgfplhaa
