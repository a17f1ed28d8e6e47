/- The walks of mem.Mem's Write, Text, Move, all. Conditions: the memory lies in the heap as MemIs says. -/
import Derived.Test.YtaaebgdlmhpdkaaGet
namespace Go.Proofs.Ytaaebgdlmhpdkaa
open Go.RowKit
theorem one5 : (Try.prog.info? 5).map (·.size) = some 1 := by kernel_rfl
def spliceB (bs : List UInt8) (a : Nat) (s : List UInt8) : List UInt8 := bs.take a ++ s ++ bs.drop (a + s.length)
theorem spliceB_length (bs : List UInt8) (a : Nat) (s : List UInt8) (h : a + s.length ≤ bs.length) : (spliceB bs a s).length = bs.length := by
  unfold spliceB; simp; omega
theorem str_len (s : ByteArray) : s.data.toList.length = s.size := Array.length_toList
theorem str_all (s : ByteArray) : (s.extract 0 s.size).data = s.data := by
  rw [ByteArray.data_extract]; exact Array.extract_size
theorem run_copy_text {P : Program} (w : World) (dT sT ty elem : TypeId) (g o n : Nat) (s : ByteArray) (cur : Array Value) (t : TypeId)
    (hu : P.underlying dT = some (.slice elem)) (hs : (P.info? elem).map (·.size) = some 1) (hg : w.heap[g]? = some (.cells cur t (0, 0))) (hn : s.size = n) (hfit : o + n ≤ cur.size) :
    (Builtin.copy_ #[dT, sT] ty #[.slice (some ⟨g, o, none⟩) n n, .string s]).run P w = .ok (goInt n) (w.setRow g (cur.toList.take o ++ s.data.toList.map bV ++ cur.toList.drop (o + n)).toArray) := by
  subst hn
  have hl := str_len s
  have hst := run_storeCells_at P g o t (s.data.toList.map bV) 0 cur w hg (by simp only [List.length_map]; omega) (by intro v hv; obtain ⟨c, _, rfl⟩ := List.mem_map.1 hv; rfl)
  simp only [List.length_map, hl, Nat.add_zero] at hst
  have hc : List.take s.size (List.map (fun b => Value.int IntKind.u8 (b.toNat : Int)) s.data.toList) = s.data.toList.map bV := by
    rw [List.take_of_length_le (by simp only [List.length_map]; omega)]; rfl
  cases hq : P.info? elem with
  | none => simp [hq] at hs
  | some i =>
    have hi : i.size = 1 := by simpa [hq] using hs
    simp [Builtin.copy_, run_underlying hu, Builtin.lenOf, Builtin.firstCells, sizeOf, typeInfo, hq]
    rw [hc, hst]
    simp
theorem run_copy_nil_text {P : Program} (w : World) (dT sT ty elem : TypeId) (s : ByteArray) (hu : P.underlying dT = some (.slice elem)) (hs : (P.info? elem).map (·.size) = some 1) :
    (Builtin.copy_ #[dT, sT] ty #[.slice none 0 0, .string s]).run P w = .ok (goInt 0) w := by
  cases hq : P.info? elem with
  | none => simp [hq] at hs
  | some i => simp [Builtin.copy_, run_underlying hu, Builtin.lenOf, Builtin.firstCells, sizeOf, typeInfo, hq]
theorem write_row {w : World} {p g : Nat} {bs : List UInt8} {h : Nat} (M : MemIs w p g bs h) (s : ByteArray) (a : Nat) (hs : a + s.size ≤ bs.length) (ty : TypeId) :
    (Builtin.copy_ #[22, 9] ty #[pieceV g a s.size, .string s]).run Try.prog w = .ok (goInt s.size) (w.setRow g ((spliceB bs a s.data.toList).map bV).toArray) := by
  have hl := str_len s
  by_cases h0 : s.size = 0
  · have e0 : s.data.toList = [] := List.eq_nil_of_length_eq_zero (by omega)
    have e1 : pieceV g a s.size = .slice (some ⟨g, 0, none⟩) s.size s.size := by simp [pieceV, h0]
    rw [e1, run_copy_text w 22 9 ty 5 g 0 s.size s _ 5 Try.underlying22 one5 M.row rfl (by rw [h0]; omega)]
    congr 2
    rw [e0, h0]
    simp [spliceB]
  · have e1 : pieceV g a s.size = .slice (some ⟨g, a, none⟩) s.size s.size := by simp [pieceV, h0]
    rw [e1, run_copy_text w 22 9 ty 5 g a s.size s _ 5 Try.underlying22 one5 M.row rfl (by simp only [List.size_toArray, List.length_map]; omega)]
    congr 2
    simp only [spliceB, hl, List.map_append, List.map_take, List.map_drop]
theorem write_ok {p g : Nat} {bs : List UInt8} {h : Nat} (w : World) (M : MemIs w p g bs h) (a : Int) (s : ByteArray) (h1 : 0 ≤ a) (h2 : a + s.size ≤ bs.length) :
    Calls Try.prog 12 #[.pointer (some ⟨p, 0, none⟩), .int .i64 a, .string s] w fun e w' => e = .returned (.int .i64 0) ∧ w.setRow g ((spliceB bs a.toNat s.data.toList).map bV).toArray = w' := by
  have hP := Lib.hid (piece_int w M a s.size h1 (by omega) h2)
  have hc := fun ty => write_row M s a.toNat (by omega) ty
  have hl := M.len
  have hl2 : s.size ≤ 65536 := by omega
  generalize pieceV g a.toNat = pv at *
  clear M
  go_enter Try.func12, Try.ntmps12
  go_wp2_with (go_at_call 30; refine hP.out.mono ?_; rintro e w' ⟨rfl, rfl⟩; simp only [Int.toNat_natCast])
  all_goals (first | (go_ret; exact ⟨rfl, rfl⟩) | exact ⟨rfl, rfl⟩)
theorem write_no {p g : Nat} {bs : List UInt8} {h : Nat} (w : World) (M : MemIs w p g bs h) (a : Int) (s : ByteArray) (_hz : s.size ≤ 4611686018427387904) (h1 : ¬ (0 ≤ a ∧ a + s.size ≤ bs.length)) :
    Calls Try.prog 12 #[.pointer (some ⟨p, 0, none⟩), .int .i64 a, .string s] w fun e w' => e = .returned (.int .i64 (-9)) ∧ w = w' := by
  have hP := Lib.hid (piece_no w M a s.size (by omega))
  have hc := fun ty => run_copy_nil_text (P := Try.prog) w 22 9 ty 5 s Try.underlying22 one5
  clear M h1
  go_enter Try.func12, Try.ntmps12
  go_wp2_with (go_at_call 30; refine hP.out.mono ?_; rintro e w' ⟨rfl, rfl⟩)
  all_goals (first | (go_ret; exact ⟨rfl, rfl⟩) | exact ⟨rfl, rfl⟩)
def seg (bs : List UInt8) (a n : Nat) : List UInt8 := (bs.drop a).take n
theorem seg_length (bs : List UInt8) (a n : Nat) (h : a + n ≤ bs.length) : (seg bs a n).length = n := by unfold seg; simp; omega
theorem seg_get (bs : List UInt8) (a n j : Nat) (hj : j < n) : (seg bs a n)[j]? = bs[a + j]? := by
  unfold seg; rw [List.getElem?_take, if_pos hj, List.getElem?_drop]
def strOf (l : List UInt8) : Value := .string ⟨l.toArray⟩
theorem piece_addr (g a n j : Nat) (hn : 0 < n) : ((if n = 0 then (⟨g, 0, none⟩ : Addr) else ⟨g, a, none⟩)).add j = ⟨g, a + j, none⟩ := by
  rw [if_neg (by omega)]; unfold Addr.add; split <;> simp_all
theorem text_conv {w : World} {p g : Nat} {bs : List UInt8} {h : Nat} (M : MemIs w p g bs h) (a n : Nat) (hs : a + n ≤ bs.length) :
    (convert 22 9 (pieceV g a n)).run Try.prog w = .ok (strOf (seg bs a n)) w := by
  have hl := seg_length bs a n hs
  have e := run_convert_bytes_back (P := Try.prog) w 22 9 5 (if n = 0 then ⟨g, 0, none⟩ else ⟨g, a, none⟩) n (seg bs a n) Try.underlying22 Try.underlying5 Try.underlying9 (fun j hj => by
    rw [hl] at hj
    rw [piece_addr g a n j (by omega), M.byte (a + j) (by omega)]
    have h2 := seg_get bs a n j hj
    have h3 : (seg bs a n)[j]? = some ((seg bs a n)[j]'(by rw [hl]; exact hj)) := List.getElem?_eq_getElem _
    rw [h3] at h2
    rw [List.getD_eq_getElem?_getD, ← h2]; rfl)
  rw [hl] at e
  exact e
theorem text_ok {p g : Nat} {bs : List UInt8} {h : Nat} (w : World) (M : MemIs w p g bs h) (a n : Int) (h1 : 0 ≤ a) (h2 : 0 ≤ n) (h3 : a + n ≤ bs.length) :
    Calls Try.prog 16 #[.pointer (some ⟨p, 0, none⟩), .int .i64 a, .int .i64 n] w fun e w' => e = .returned (.tuple #[strOf (seg bs a.toNat n.toNat), .int .i64 0]) ∧ w = w' := by
  have hP := Lib.hid (piece_int w M a n h1 h2 h3)
  have hc := text_conv M a.toNat n.toNat (by omega)
  generalize pieceV g a.toNat n.toNat = pv at *
  generalize strOf (seg bs a.toNat n.toNat) = sv at *
  clear M
  go_enter Try.func16, Try.ntmps16
  go_wp2_with (go_at_call 30; refine hP.out.mono ?_; rintro e w' ⟨rfl, rfl⟩)
  all_goals (first | (go_ret2; exact ⟨rfl, rfl⟩) | exact ⟨rfl, rfl⟩)
theorem text_no {p g : Nat} {bs : List UInt8} {h : Nat} (w : World) (M : MemIs w p g bs h) (a n : Int) (h1 : ¬ (0 ≤ a ∧ a ≤ bs.length ∧ 0 ≤ n ∧ n ≤ bs.length - a)) :
    Calls Try.prog 16 #[.pointer (some ⟨p, 0, none⟩), .int .i64 a, .int .i64 n] w fun e w' => e = .returned (.tuple #[strOf [], .int .i64 (-9)]) ∧ w = w' := by
  have hP := Lib.hid (piece_no w M a n h1)
  have hc : ∀ w, (convert 22 9 (.slice none 0 0)).run Try.prog w = .ok (strOf []) w := fun w => run_convert_bytes_nil (P := Try.prog) w 22 5 Try.underlying22 Try.underlying5 0 0 9 Try.underlying9
  generalize strOf [] = sv at *
  clear M h1
  go_enter Try.func16, Try.ntmps16
  go_wp2_with (go_at_call 30; refine hP.out.mono ?_; rintro e w' ⟨rfl, rfl⟩)
  all_goals (first | (go_ret2; exact ⟨rfl, rfl⟩) | exact ⟨rfl, rfl⟩)
theorem move_row {w : World} {p g : Nat} {bs : List UInt8} {h : Nat} (M : MemIs w p g bs h) (f t n : Nat) (hf : f + n ≤ bs.length) (ht : t + n ≤ bs.length) (ty : TypeId) :
    (Builtin.copy_ #[22, 22] ty #[pieceV g t n, pieceV g f n]).run Try.prog w = .ok (goInt n) (w.setRow g ((spliceB bs t (seg bs f n)).map bV).toArray) := by
  have hl := seg_length bs f n hf
  by_cases h0 : n = 0
  · subst h0
    have e0 : seg bs f 0 = [] := by simp [seg]
    have e1 : w.setRow g ((spliceB bs t (seg bs f 0)).map bV).toArray = w := by
      rw [e0]
      have : spliceB bs t [] = bs := by simp [spliceB]
      rw [this]; exact setRow_self w g _ _ _ M.row
    rw [e1]
    exact run_copy_none (P := Try.prog) w 22 22 ty 5 _ _ 0 0 0 0 Try.underlying22 one5 rfl
  · have hc := run_copy_row Try.prog w 22 22 ty 5 g t n n ⟨g, f, none⟩ n n (bs.map bV).toArray 5 ((seg bs f n).map bV) Try.underlying22 one5 M.row (by simp [hl]) (fun j v hj => by
      rw [List.getElem?_map] at hj
      have hjl : j < n := by
        rcases Nat.lt_or_ge j n with h | h
        · exact h
        · rw [List.getElem?_eq_none (by omega)] at hj; simp at hj
      have e : (⟨g, f, none⟩ : Addr).add j = ⟨g, f + j, none⟩ := by unfold Addr.add; split <;> simp_all
      rw [e, M.byte (f + j) (by omega)]
      rw [seg_get bs f n j hjl] at hj
      rw [List.getD_eq_getElem?_getD]
      cases hb : bs[f + j]? with
      | none => rw [hb] at hj; simp at hj
      | some c => rw [hb] at hj; simpa using hj) (by simp [hl]; omega) (by intro v hv; obtain ⟨c, _, rfl⟩ := List.mem_map.1 hv; rfl)
    have p1 : pieceV g t n = .slice (some ⟨g, t, none⟩) n n := by simp [pieceV, h0]
    have p2 : pieceV g f n = .slice (some ⟨g, f, none⟩) n n := by simp [pieceV, h0]
    rw [p1, p2, hc]
    simp only [List.length_map, hl, spliceB, List.map_append, List.map_take, List.map_drop]
theorem run_copy_to_nil {P : Program} (w : World) (dT sT ty elem : TypeId) (d : Option Addr) (n : Nat) (hu : P.underlying dT = some (.slice elem)) (hs : (P.info? elem).map (·.size) = some 1) :
    (Builtin.copy_ #[dT, sT] ty #[.slice none 0 0, .slice d n n]).run P w = .ok (goInt 0) w :=
  run_copy_none (P := P) w dT sT ty elem none d 0 0 n n hu hs (by simp)
theorem move_ok {p g : Nat} {bs : List UInt8} {h : Nat} (w : World) (M : MemIs w p g bs h) (f t n : Int) (h1 : 0 ≤ f) (h2 : 0 ≤ n) (h3 : f + n ≤ bs.length) (h4 : 0 ≤ t) (h5 : t + n ≤ bs.length) :
    Calls Try.prog 19 #[.pointer (some ⟨p, 0, none⟩), .int .i64 f, .int .i64 t, .int .i64 n] w fun e w' => e = .returned (.int .i64 0) ∧ w.setRow g ((spliceB bs t.toNat (seg bs f.toNat n.toNat)).map bV).toArray = w' := by
  have hP := Lib.hid (piece_int w M f n h1 h2 h3)
  have hQ := Lib.hid (piece_int w M t n h4 h2 h5)
  have hc := fun ty => move_row M f.toNat t.toNat n.toNat (by omega) (by omega) ty
  have hl := M.len
  have hn : n.toNat ≤ 65536 := by omega
  generalize pieceV g f.toNat n.toNat = pv at *
  generalize pieceV g t.toNat n.toNat = qv at *
  generalize n.toNat = nn at *
  clear M
  go_enter Try.func19, Try.ntmps19
  go_wp2_with fail
  refine hP.out.mono ?_
  rintro e w' ⟨rfl, rfl⟩
  go_wp2_with fail
  refine hQ.out.mono ?_
  rintro e w' ⟨rfl, rfl⟩
  go_wp2
  all_goals (first | (go_ret; exact ⟨rfl, rfl⟩) | exact ⟨rfl, rfl⟩)
theorem move_no1 {p g : Nat} {bs : List UInt8} {h : Nat} (w : World) (M : MemIs w p g bs h) (f t n : Int) (h1 : ¬ (0 ≤ f ∧ f ≤ bs.length ∧ 0 ≤ n ∧ n ≤ bs.length - f)) :
    Calls Try.prog 19 #[.pointer (some ⟨p, 0, none⟩), .int .i64 f, .int .i64 t, .int .i64 n] w fun e w' => e = .returned (.int .i64 (-9)) ∧ w = w' := by
  have hP := Lib.hid (piece_no w M f n h1)
  clear M h1
  go_enter Try.func19, Try.ntmps19
  go_wp2_with (go_at_call 30; refine hP.out.mono ?_; rintro e w' ⟨rfl, rfl⟩)
  all_goals (first | (go_ret; exact ⟨rfl, rfl⟩) | exact ⟨rfl, rfl⟩)
theorem move_no2 {p g : Nat} {bs : List UInt8} {h : Nat} (w : World) (M : MemIs w p g bs h) (f t n : Int) (h1 : 0 ≤ f) (h2 : 0 ≤ n) (h3 : f + n ≤ bs.length) (h4 : ¬ (0 ≤ t ∧ t ≤ bs.length ∧ 0 ≤ n ∧ n ≤ bs.length - t)) :
    Calls Try.prog 19 #[.pointer (some ⟨p, 0, none⟩), .int .i64 f, .int .i64 t, .int .i64 n] w fun e w' => e = .returned (.int .i64 (-9)) ∧ w = w' := by
  have hP := Lib.hid (piece_int w M f n h1 h2 h3)
  have hQ := Lib.hid (piece_no w M t n h4)
  obtain ⟨d, hd⟩ : ∃ d, pieceV g f.toNat n.toNat = .slice d n.toNat n.toNat := ⟨_, rfl⟩
  rw [hd] at hP
  have hc := fun ty => run_copy_to_nil (P := Try.prog) w 22 22 ty 5 d n.toNat Try.underlying22 one5
  clear M h4 hd
  generalize n.toNat = nn at *
  go_enter Try.func19, Try.ntmps19
  go_wp2_with fail
  refine hP.out.mono ?_
  rintro e w' ⟨rfl, rfl⟩
  go_wp2_with fail
  refine hQ.out.mono ?_
  rintro e w' ⟨rfl, rfl⟩
  go_wp2
  all_goals (first | (go_ret; exact ⟨rfl, rfl⟩) | exact ⟨rfl, rfl⟩)
theorem all_any {p g : Nat} {bs : List UInt8} {h : Nat} (w : World) (M : MemIs w p g bs h) : Calls Try.prog 15 #[.pointer (some ⟨p, 0, none⟩)] w fun e w' => e = .returned (strOf bs) ∧ w = w' := by
  have hS := Lib.hid (size_any w M)
  have hT := Lib.hid (text_ok w M 0 bs.length (by omega) (by omega) (by omega))
  have e : seg bs (0 : Int).toNat ((bs.length : Int)).toNat = bs := by simp [seg]
  rw [e] at hT
  have hl := M.len
  clear M e
  generalize strOf bs = sv at *
  go_enter Try.func15, Try.ntmps15
  go_wp2_with fail
  refine hS.out.mono ?_
  rintro e w' ⟨rfl, rfl⟩
  go_wp2_with fail
  refine hT.out.mono ?_
  rintro e w' ⟨rfl, rfl⟩
  go_wp2
  all_goals (first | (go_ret; exact ⟨rfl, rfl⟩) | exact ⟨rfl, rfl⟩)
end Go.Proofs.Ytaaebgdlmhpdkaa
