/- What rhytonref10.Loops keeps, where the instructions have a static depth. Plain facts. -/
import Derived.Test.YtdpoobkfhmmbjaaOps
import Derived.Test.YtdpoobkfhmmbjaaTake
namespace Go.Proofs.Ytdpoobkfhmmbjaa
open Go.RowKit
open Go.MapKept (heap_alloc)
/-- The instructions have a static depth. -/
structure Dep (L : List I3) (d : Nat → Int) : Prop where
  zero : d 0 = 0
  pos : ∀ i, i < L.length → 0 ≤ d i ∧ d i ≤ 1000
  ops : ∀ x ∈ L, 0 ≤ x.1 ∧ x.1 < 16
  onn : ∀ (i : Nat) (x : I3), L[i]? = some x → onB x.1 = true → i + 1 < L.length ∧ d (i + 1) = d i + moreA x.1
  goo : ∀ (i : Nat) (x : I3), L[i]? = some x → goesB x.1 = true → 0 ≤ x.2.1 ∧ x.2.1 < L.length ∧ d x.2.1.toNat = d i + moreB x.1
  len : 0 < L.length ∧ L.length ≤ 500
/-- the row of depths under way -/
def OutIs (w : World) (ob : Nat) (out : List Int) : Prop := w.heap[ob]? = some (.cells (out.map intV).toArray 3 (0, 0))
def Fine (d : Nat → Int) (out : List Int) : Prop := ∀ (i : Nat) (x : Int), out[i]? = some x → x = -1 ∨ x = d i
theorem OutIs.cell {w : World} {ob : Nat} {out : List Int} (h : OutIs w ob out) {i : Nat} {x : Int} (hi : out[i]? = some x) : w.cell? ⟨ob, i, none⟩ = some (.int .i64 x) ∧ w.frozen? ⟨ob, i, none⟩ = false := by
  refine ⟨?_, frozen_block h i⟩
  rw [cell_block h]
  simp [hi, intV]
theorem OutIs.set {w : World} {ob : Nat} {out : List Int} (h : OutIs w ob out) (i : Nat) (x : Int) : OutIs (w.setCell ⟨ob, i, none⟩ (.int .i64 x)) ob (out.set i x) := by
  unfold OutIs at *
  rw [setCell_eq_setRow w ob i _ _ _ _ h, setRow_heap w ob _ _ _ _ h]
  simp [intV, List.map_set]
theorem OutIs.kept {S : Nat → Prop} {w w' : World} {ob : Nat} {out : List Int} (h : OutIs w ob out) (K : Kept S w w') (hs : ¬ S ob) : OutIs w' ob out := (K.block ob (Array.getElem?_eq_some_iff.1 h).1 hs).trans h
/-- how many are still not known -/
def cnt (out : List Int) : Nat := out.count (-1)
theorem cnt_set (out : List Int) (i : Nat) (x : Int) (hi : out[i]? = some (-1)) (hx : x ≠ -1) : cnt (out.set i x) < cnt out := by
  unfold cnt
  induction out generalizing i with
  | nil => simp at hi
  | cons y out ih =>
    cases i with
    | zero =>
      simp at hi
      subst hi
      simp [hx]
    | succ i =>
      have := ih i (by simpa using hi)
      simp only [List.set_cons_succ, List.count_cons]
      omega
theorem info3' : (Try.prog.info? 3).map (fun i => (i.zero, i.size, i.bytes)) = some (some (.int .i64 0), 1, 8) := by kernel_rfl
def zerosI (n : Nat) : Array Value := ((List.replicate n (0 : Int)).map intV).toArray
theorem made_ints (n : Nat) : madeCells #[.int .i64 0] n = zerosI n := by
  unfold zerosI madeCells
  apply Array.ext_getElem?
  intro j
  by_cases hj : j < n
  · simp [hj, intV, Nat.mod_one]
  · simp [hj]
theorem run_make_ints (w : World) (n : Nat) (h : n ≤ 500) : (Instr.makeSlice 23 (.int .i64 (n : Int)) (.int .i64 (n : Int))).run Try.prog w = .ok (.slice (some ⟨w.heap.size, 0, none⟩) n n) (w.alloc (.cells (zerosI n) 3)) := by
  have h5 := info3'
  cases hq : Try.prog.info? 3 with
  | none => rw [hq] at h5; simp at h5
  | some i =>
    rw [hq] at h5
    simp only [Option.map_some, Option.some.injEq, Prod.mk.injEq] at h5
    obtain ⟨z1, z2, z3⟩ := h5
    have hr := run_make (P := Try.prog) w 23 3 i (.int .i64 0) Try.underlying23 hq z1 .i64 .i64 n n (by omega) (by omega) (by rw [z3]; omega) (by omega)
    rw [z2] at hr
    simp only [Int.toNat_natCast, Nat.mul_one] at hr
    have e : madeCells (Value.int .i64 0).cells n = zerosI n := made_ints n
    rw [e] at hr
    exact hr
theorem out_made (w : World) (n : Nat) : OutIs (w.alloc (.cells (zerosI n) 3)) w.heap.size (List.replicate 0 (-1) ++ List.replicate (n - 0) 0) := by
  unfold OutIs zerosI
  simpa using (heap_alloc w (.cells ((List.replicate n (0 : Int)).map intV).toArray 3)).1
theorem minus_step (n k : Nat) (h : k < n) : (List.replicate k (-1 : Int) ++ List.replicate (n - k) 0).set k (-1) = List.replicate (k + 1) (-1) ++ List.replicate (n - (k + 1)) 0 := by
  apply List.ext_getElem?
  intro j
  rw [List.getElem?_set]
  rcases Nat.lt_trichotomy j k with hj | hj | hj
  · rw [if_neg (by omega), List.getElem?_append_left (by simpa using hj), List.getElem?_append_left (by simp; omega), List.getElem?_replicate, List.getElem?_replicate, if_pos (by omega), if_pos (by omega)]
  · subst hj
    rw [if_pos rfl, if_pos (by simp; omega), List.getElem?_append_left (by simp), List.getElem?_replicate, if_pos (by omega)]
  · rw [if_neg (by omega), List.getElem?_append_right (by simp; omega), List.getElem?_append_right (by simp; omega), List.getElem?_replicate, List.getElem?_replicate, List.length_replicate, List.length_replicate]
    by_cases h2 : j < n
    · rw [if_pos (by omega), if_pos (by omega)]
    · rw [if_neg (by omega), if_neg (by omega)]
theorem minus_get (n k : Nat) (h : k < n) : (List.replicate k (-1 : Int) ++ List.replicate (n - k) 0)[k]? = some 0 := by
  rw [List.getElem?_append_right (by simp), List.length_replicate, List.getElem?_replicate, if_pos (by omega)]
/-- the same, read off the world -/
def isM : Value → Bool
  | .int .i64 x => x == -1
  | _ => false
def cntW (w : World) (ob : Nat) : Nat := match w.heap[ob]? with
  | some (.cells cs _ _) => (cs.toList.filter isM).length
  | _ => 0
theorem cntW_out {w : World} {ob : Nat} {out : List Int} (h : OutIs w ob out) : cntW w ob = cnt out := by
  unfold cntW
  rw [h]
  show ((out.map intV).filter isM).length = _
  unfold cnt
  clear h
  induction out with
  | nil => rfl
  | cons x out ih =>
    simp only [List.map_cons, List.filter_cons, List.count_cons]
    have e : isM (intV x) = (x == -1) := rfl
    rw [e]
    by_cases hx : (x == -1) = true
    · rw [if_pos hx, if_pos hx, List.length_cons]
      have := ih
      omega
    · rw [if_neg hx, if_neg hx]
      simpa using ih
theorem fine_first (d : Nat → Int) (h0 : d 0 = 0) (n : Nat) : Fine d ((List.replicate n (-1 : Int) ++ List.replicate (n - n) 0).set 0 0) := by
  intro i x hx
  rw [List.getElem?_set] at hx
  by_cases h : 0 = i
  · subst h
    rw [if_pos rfl] at hx
    split at hx
    · cases hx; exact .inr h0.symm
    · cases hx
  · rw [if_neg h, Nat.sub_self, List.replicate_zero, List.append_nil, List.getElem?_replicate] at hx
    split at hx
    · cases hx; exact .inl rfl
    · cases hx
theorem fine_set {d : Nat → Int} {out : List Int} (h : Fine d out) (i : Nat) : Fine d (out.set i (d i)) := by
  intro j x hx
  rw [List.getElem?_set] at hx
  by_cases hj : i = j
  · subst hj
    rw [if_pos rfl] at hx
    split at hx
    · cases hx; exact .inr rfl
    · cases hx
  · rw [if_neg hj] at hx
    exact h j x hx
theorem more_small (op : Int) : -1 ≤ moreA op ∧ moreA op ≤ 1 ∧ -1 ≤ moreB op ∧ moreB op ≤ 0 := by
  unfold moreA moreB
  split <;> (try split) <;> (try split) <;> (try split) <;> (try split) <;> omega
end Go.Proofs.Ytdpoobkfhmmbjaa
