/- Parts one within the other: the plain facts; and many blocks made one after the other. -/
import Derived.Test.YtdpoobkfhmmbjaaFnw
namespace Go.Proofs.Ytdpoobkfhmmbjaa
open Go.RowKit
def kindN (c : Nat) : List Int := ([[0], [1], [1, 0], [2], [2], [0]] : List (List Int)).getD c []
def nB (c : Nat) : Nat := ([1, 1, 2, 1, 1, 2] : List Nat).getD c 0
def begN (c j : Nat) : Nat := (([[1], [4], [4, 5], [9], [10], [1, 2]] : List (List Nat)).getD c []).getD j 0
def kP (c j : Nat) : List Int := (([[[], [0]], [[], [1]], [[], [1], [1, 0]], [[], [2]], [[], [2]], [[], [0], [0]]] : List (List (List Int))).getD c []).getD j []
def lP (c j : Nat) : Nat := (([[0, 1], [0, 0], [0, 0, 1], [0, 1], [0, 1], [0, 1, 2]] : List (List Nat)).getD c []).getD j 0
def endN (c : Nat) : Nat := ([3, 8, 6, 12, 11, 3] : List Nat).getD c 0
def endL (c : Nat) : Nat := ([0, 1, 1, 1, 1, 0] : List Nat).getD c 0
def layN (c : Nat) : Nat := ([1, 1, 2, 2, 2, 2] : List Nat).getD c 0
theorem kP_all (c : Nat) (h : c < 6) : kP c 0 = [] ∧ lP c 0 = 0 ∧ kP c (nB c) = kindN c ∧ lP c (nB c) + endL c = layN c ∧ nB c ≤ 2 ∧ layN c ≤ 2 ∧ (kindN c).length ≤ 2 ∧ endL c ≤ 1 := by
  match c, h with
  | 0, _ | 1, _ | 2, _ | 3, _ | 4, _ | 5, _ => decide
theorem kP_len (c j : Nat) (h : c < 6) (hj : j ≤ nB c) : (kP c j).length ≤ 2 ∧ lP c j ≤ 2 := by
  match c, h with
  | 0, _ | 1, _ | 3, _ | 4, _ => match j, hj with
    | 0, _ | 1, _ => decide
    | j + 2, h => exact absurd h (by simp [nB])
  | 2, _ | 5, _ => match j, hj with
    | 0, _ | 1, _ | 2, _ => decide
    | j + 3, h => exact absurd h (by simp [nB])
/-- one word that opens -/
theorem beg_word (c j : Nat) (h : c < 6) (hj : j < nB c) : 1 ≤ begN c j ∧ begN c j ≤ 17 ∧ begN c j ≠ 13 ∧ (∃ r, kP c j = asksOf (begN c j) ++ r ∧ kP c (j + 1) = addOf (begN c j) ++ r) ∧ lP c (j + 1) = lP c j + (if laysOf (begN c j) = 0 then 0 else 1) := by
  match c, h with
  | 0, _ | 1, _ | 3, _ | 4, _ => match j, hj with
    | 0, _ => exact ⟨by decide, by decide, by decide, ⟨[], by decide, by decide⟩, by decide⟩
    | j + 1, h => exact absurd h (by simp [nB])
  | 2, _ | 5, _ => match j, hj with
    | 0, _ | 1, _ => exact ⟨by decide, by decide, by decide, ⟨[], by decide, by decide⟩, by decide⟩
    | j + 2, h => exact absurd h (by simp [nB])
theorem beg_step (c j : Nat) (h : c < 6) (hj : j < nB c) (s : St) (ks : List Int) (hk : kindsS s = kP c j ++ ks) (hl : s.1.length < 499) (hd : s.2.length < 32) :
    ansS ((begN c j : Nat) : Int) s = 0 ∧ kindsS (doS ((begN c j : Nat) : Int) s) = kP c (j + 1) ++ ks ∧ (doS ((begN c j : Nat) : Int) s).1.length + lP c j = s.1.length + lP c (j + 1) := by
  obtain ⟨h1, h2, h3, ⟨r, e1, e2⟩, e3⟩ := beg_word c j h hj
  have ha := ans_fit (begN c j) s h1 h2 h3 ⟨r ++ ks, by rw [hk, e1, List.append_assoc]⟩ hl (.inl hd)
  obtain ⟨⟨rest, k1, k2⟩, k3⟩ := do_kinds _ s ha
  refine ⟨ha, ?_, by rw [k3, e3]; omega⟩
  rw [hk, e1, List.append_assoc] at k1
  rw [k2, e2, List.append_assoc, List.append_cancel_left k1]
theorem end_word (c : Nat) (h : c < 6) : 1 ≤ endN c ∧ endN c ≤ 17 ∧ endN c ≠ 13 ∧ kindN c = asksOf (endN c) ∧ addOf (endN c) = [] ∧ moreOf (endN c) = 0 ∧ endL c = (if laysOf (endN c) = 0 then 0 else 1) := by
  match c, h with
  | 0, _ | 1, _ | 2, _ | 3, _ | 4, _ | 5, _ => decide
theorem end_step (c : Nat) (h : c < 6) (s : St) (ks : List Int) (hk : kindsS s = kindN c ++ ks) (hl : s.1.length < 499) :
    ansS ((endN c : Nat) : Int) s = 0 ∧ kindsS (doS ((endN c : Nat) : Int) s) = ks ∧ (doS ((endN c : Nat) : Int) s).1.length = s.1.length + endL c := by
  obtain ⟨h1, h2, h3, e1, e2, e3, e4⟩ := end_word c h
  have ha := ans_fit (endN c) s h1 h2 h3 ⟨ks, by rw [hk, e1]⟩ hl (.inr e3)
  obtain ⟨⟨rest, k1, k2⟩, k3⟩ := do_kinds _ s ha
  refine ⟨ha, ?_, by rw [k3, e4]⟩
  rw [hk, e1] at k1
  rw [k2, e2, List.append_cancel_left k1]
  rfl
/-- which part -/
def cN (zs : List Int) (i : Nat) : Nat := ((zs.getD i 0).tmod 6).toNat
theorem cN_lt (zs : List Int) (i : Nat) (hz : ∀ n ∈ zs, 0 ≤ n ∧ n < 256) : cN zs i < 6 ∧ (zs.getD i 0).tmod 6 = (cN zs i : Int) := by
  have h : 0 ≤ zs.getD i 0 ∧ zs.getD i 0 < 256 := by
    rw [List.getD_eq_getElem?_getD]
    cases hq : zs[i]? with
    | none => simp
    | some n => exact hz n (List.mem_of_getElem? hq)
  unfold cN
  rw [Int.tmod_eq_emod_of_nonneg h.1]
  omega
def ksN (zs : List Int) : Nat → List Int
  | 0 => []
  | i + 1 => kindN (cN zs i) ++ ksN zs i
def wN (zs : List Int) (k : Nat) : Nat → Nat
  | 0 => 0
  | i + 1 => wN zs k i + (layN (cN zs i) + k)
def eN (zs : List Int) : Nat → Nat
  | 0 => 0
  | i + 1 => eN zs i + endL (cN zs i)
theorem ksN_len (zs : List Int) (hz : ∀ n ∈ zs, 0 ≤ n ∧ n < 256) (i : Nat) : (ksN zs i).length ≤ 2 * i := by
  induction i with
  | zero => exact Nat.le_refl _
  | succ i ih =>
    have := (kP_all _ (cN_lt zs i hz).1).2.2.2.2.2.2.1
    simp only [ksN, List.length_append]
    omega
theorem wN_le (zs : List Int) (hz : ∀ n ∈ zs, 0 ≤ n ∧ n < 256) (k : Nat) (hk : k < 4) (i : Nat) : wN zs k i ≤ 5 * i := by
  induction i with
  | zero => exact Nat.le_refl _
  | succ i ih =>
    have := (kP_all _ (cN_lt zs i hz).1).2.2.2.2.2.1
    simp only [wN]
    omega
/-- blocks made one after the other -/
def allocs (w : World) (os : List Obj) : World := os.foldl (fun w o => w.alloc o) w
theorem allocs_size (os : List Obj) (w : World) : (allocs w os).heap.size = w.heap.size + os.length := by
  induction os generalizing w with
  | nil => rfl
  | cons o os ih =>
    show (allocs (w.alloc o) os).heap.size = _
    rw [ih]
    simp
    omega
theorem allocs_kept {S : Nat → Prop} {w0 : World} (os : List Obj) : ∀ {w : World}, Kept S w0 w → Kept S w0 (allocs w os) := by
  induction os with
  | nil => exact fun h => h
  | cons o os ih => exact fun h => ih (h.alloc o)
theorem allocs_get (os : List Obj) (w : World) (i : Nat) (o : Obj) (h : os[i]? = some o) : (allocs w os).heap[w.heap.size + i]? = some o := by
  induction os generalizing w i with
  | nil => simp at h
  | cons o' os ih =>
    show (allocs (w.alloc o') os).heap[w.heap.size + i]? = some o
    cases i with
    | zero =>
      simp at h
      subst h
      have K : Kept (fun _ => False) (w.alloc o') (allocs (w.alloc o') os) := allocs_kept os (Kept.refl _ _)
      exact (K.block w.heap.size (by simp) (fun h => h)).trans (MapKept.heap_alloc w o').1
    | succ i =>
      have := ih (w.alloc o') i (by simpa using h)
      rw [World.size_alloc] at this
      rw [show w.heap.size + (i + 1) = w.heap.size + 1 + i by omega]
      exact this
def I1 (n : Nat) : Value := .int .i64 (n : Int)
def rowsN (b : Nat) : List Obj := [.cells #[.int .i64 1] 3, .cells #[.int .i64 4] 3, .cells #[.int .i64 4, .int .i64 5] 3, .cells #[.int .i64 9] 3, .cells #[.int .i64 10] 3, .cells #[.int .i64 1, .int .i64 2] 3,
  .cells #[.slice (some ⟨b, 0, none⟩) 1 1, .slice (some ⟨b + 1, 0, none⟩) 1 1, .slice (some ⟨b + 1 + 1, 0, none⟩) 2 2, .slice (some ⟨b + 1 + 1 + 1, 0, none⟩) 1 1, .slice (some ⟨b + 1 + 1 + 1 + 1, 0, none⟩) 1 1, .slice (some ⟨b + 1 + 1 + 1 + 1 + 1, 0, none⟩) 2 2] 23,
  .cells #[.int .i64 3, .int .i64 8, .int .i64 6, .int .i64 12, .int .i64 11, .int .i64 3] 3, .cells #[.int .i64 1, .int .i64 1, .int .i64 2, .int .i64 2, .int .i64 2, .int .i64 2] 3]
theorem cell_at {w : World} {r : Nat} {cs : Array Value} {t : TypeId} (h : w.heap[r]? = some (.cells cs t (0, 0))) {j : Nat} {v : Value} (hv : cs[j]? = some v) : w.cell? ⟨r, j, none⟩ = some v := by rw [cell_block h]; exact hv
theorem rows_beg {w : World} {b : Nat} (h : ∀ i o, (rowsN b)[i]? = some o → w.heap[b + i]? = some o) (c : Nat) (hc : c < 6) : w.cell? ⟨b + 6, c, none⟩ = some (.slice (some ⟨b + c, 0, none⟩) (nB c) (nB c)) := by
  have h6 := h 6 _ rfl
  match c, hc with
  | 0, _ | 1, _ | 2, _ | 3, _ | 4, _ | 5, _ => exact cell_at h6 rfl
theorem rows_part {w : World} {b : Nat} (h : ∀ i o, (rowsN b)[i]? = some o → w.heap[b + i]? = some o) (c j : Nat) (hc : c < 6) (hj : j < nB c) : w.cell? ⟨b + c, j, none⟩ = some (.int .i64 ((begN c j : Nat) : Int)) := by
  match c, hc with
  | 0, _ => match j, hj with
    | 0, _ => exact cell_at (h 0 _ rfl) rfl
    | j + 1, h => exact absurd h (by simp [nB])
  | 1, _ => match j, hj with
    | 0, _ => exact cell_at (h 1 _ rfl) rfl
    | j + 1, h => exact absurd h (by simp [nB])
  | 2, _ => match j, hj with
    | 0, _ | 1, _ => exact cell_at (h 2 _ rfl) rfl
    | j + 2, h => exact absurd h (by simp [nB])
  | 3, _ => match j, hj with
    | 0, _ => exact cell_at (h 3 _ rfl) rfl
    | j + 1, h => exact absurd h (by simp [nB])
  | 4, _ => match j, hj with
    | 0, _ => exact cell_at (h 4 _ rfl) rfl
    | j + 1, h => exact absurd h (by simp [nB])
  | 5, _ => match j, hj with
    | 0, _ | 1, _ => exact cell_at (h 5 _ rfl) rfl
    | j + 2, h => exact absurd h (by simp [nB])
theorem rows_end {w : World} {b : Nat} (h : ∀ i o, (rowsN b)[i]? = some o → w.heap[b + i]? = some o) (c : Nat) (hc : c < 6) : w.cell? ⟨b + 7, c, none⟩ = some (.int .i64 ((endN c : Nat) : Int)) ∧ w.cell? ⟨b + 8, c, none⟩ = some (.int .i64 ((layN c : Nat) : Int)) := by
  have h7 := h 7 _ rfl
  have h8 := h 8 _ rfl
  match c, hc with
  | 0, _ | 1, _ | 2, _ | 3, _ | 4, _ | 5, _ => exact ⟨cell_at h7 rfl, cell_at h8 rfl⟩
end Go.Proofs.Ytdpoobkfhmmbjaa
