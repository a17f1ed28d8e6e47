/- The walk of rhytonref10.Text, at small numbers. -/
import Derived.Test.YtdpoobkfhmmbjaaNum
import Derived.Test.YtdpoobkfhmmbjaaParts
namespace Go.Proofs.Ytdpoobkfhmmbjaa
open Go.RowKit
def sp : ByteArray := ⟨#[32]⟩
def nameV : Array Value := #[.string ⟨#[63]⟩, .string ⟨#[108, 105, 116]⟩, .string ⟨#[99, 97, 108, 108]⟩, .string ⟨#[106, 117, 109, 112]⟩, .string ⟨#[122, 101, 114, 111]⟩, .string ⟨#[100, 111]⟩, .string ⟨#[113, 100, 111]⟩, .string ⟨#[108, 111, 111, 112]⟩, .string ⟨#[112, 108, 117, 115]⟩, .string ⟨#[108, 101, 97, 118, 101]⟩, .string ⟨#[111, 102]⟩, .string ⟨#[100, 114, 111, 112]⟩, .string ⟨#[108, 111, 99, 97, 108, 115]⟩, .string ⟨#[108, 111, 99, 97, 108]⟩, .string ⟨#[116, 111]⟩, .string ⟨#[101, 120, 105, 116]⟩]
def nameOf (i : Nat) : ByteArray := ([⟨#[63]⟩, ⟨#[108, 105, 116]⟩, ⟨#[99, 97, 108, 108]⟩, ⟨#[106, 117, 109, 112]⟩, ⟨#[122, 101, 114, 111]⟩, ⟨#[100, 111]⟩, ⟨#[113, 100, 111]⟩, ⟨#[108, 111, 111, 112]⟩, ⟨#[112, 108, 117, 115]⟩, ⟨#[108, 101, 97, 118, 101]⟩, ⟨#[111, 102]⟩, ⟨#[100, 114, 111, 112]⟩, ⟨#[108, 111, 99, 97, 108, 115]⟩, ⟨#[108, 111, 99, 97, 108]⟩, ⟨#[116, 111]⟩, ⟨#[101, 120, 105, 116]⟩] : List ByteArray).getD i ⟨#[]⟩
theorem name_get (i : Nat) (h : i < 16) : nameV[i]? = some (.string (nameOf i)) ∧ (nameOf i).size ≤ 6 := by
  match i, h with
  | 0, _ | 1, _ | 2, _ | 3, _ | 4, _ | 5, _ | 6, _ | 7, _ | 8, _ | 9, _ | 10, _ | 11, _ | 12, _ | 13, _ | 14, _ | 15, _ => exact ⟨rfl, by decide⟩
  | i + 16, h => exact absurd h (by omega)
theorem txt_size (n : Nat) : (txt n).size ≤ 2 := by
  unfold txt
  split
  · simp [dig_size]
  · simp [ByteArray.size_append, dig_size]
def numOf (x : I3) : Nat := (if x.1 = 1 then x.2.2 else x.2.1).toNat
def insT (k : Nat) (s : ByteArray) (x : I3) : ByteArray := (if k = 0 then s else s ++ sp) ++ nameOf x.1.toNat ++ sp ++ txt (numOf x)
def textN (L : List I3) : Nat → ByteArray
  | 0 => ⟨#[]⟩
  | k + 1 => match L[k]? with
    | some x => insT k (textN L k) x
    | none => textN L k
/-- what 'Text' can tell -/
def Tellable (x : I3) : Prop := 0 ≤ x.1 ∧ x.1 < 16 ∧ 0 ≤ (if x.1 = 1 then x.2.2 else x.2.1) ∧ (if x.1 = 1 then x.2.2 else x.2.1) < 24
theorem textN_size (L : List I3) (hL : ∀ x ∈ L, Tellable x) (k : Nat) : (textN L k).size ≤ 10 * k := by
  induction k with
  | zero => exact Nat.le_refl _
  | succ k ih =>
    unfold textN
    split
    · rename_i x hx
      have hn := (name_get x.1.toNat (by have := hL x (List.mem_of_getElem? hx); unfold Tellable at this; omega)).2
      have ht := txt_size (numOf x)
      have hs : sp.size = 1 := rfl
      unfold insT
      simp only [ByteArray.size_append]
      split <;> (try simp only [ByteArray.size_append]) <;> omega
    · omega
set_option maxRecDepth 100000 in
set_option maxHeartbeats 4000000 in
theorem text_any (L : List I3) (hL : ∀ x ∈ L, Tellable x) (dv : Value) (w : World) (hlen : L.length < 600) (hd : w.ownsRow 0 31 3 dv L.length (codeV L)) :
    Calls Try.prog 16 #[.agg #[dv]] w fun e w' => e = .returned (.string (textN L L.length)) ∧ Kept NB w w' := by
  obtain ⟨a, c, rfl, g1, g2, g3⟩ := owns_slice hd
  have HD := Lib.hid hd
  have HX := Lib.hid (show ((w.alloc (.cells #[.slice a L.length c] 34)).alloc (.cells nameV 9)).heap[w.heap.size]? = some (.cells #[.slice a L.length c] 34 (0, 0)) from (Below.heap_alloc _ _ _ (by simp)).trans (MapKept.heap_alloc w _).1)
  have HN := Lib.hid (show ((w.alloc (.cells #[.slice a L.length c] 34)).alloc (.cells nameV 9)).heap[w.heap.size + 1]? = some (.cells nameV 9 (0, 0)) from box2_new (S := NB) w _ _ _ (Kept.refl _ _) (fun h => h))
  have HK0 := Lib.hid (((Kept.refl NB w).alloc (.cells #[.slice a L.length c] 34)).alloc (.cells nameV 9))
  have HLL := Lib.hid hL
  have HZ := Lib.hid (textN_size L hL)
  clear hd g3 hL
  unfold nameV at HX HN HK0
  go_enter Try.func16, Try.ntmps16
  try simp only [List.append]
  go_wp2_with fail
  go_loopw [4, 5] (fun v i wr => ∃ k : Nat, k ≤ L.length ∧ i = .int .i64 k ∧ v = .string (textN L k) ∧ wr.heap[w.heap.size]? = some (.cells #[.slice a L.length c] 34 (0, 0)) ∧ wr.heap[w.heap.size + 1]? = some (.cells nameV 9 (0, 0)) ∧ Kept NB w wr) (fun _ i _ => L.length - (intOf i).toNat)
  case atStart => exact ⟨0, by omega, rfl, rfl, HX.out, HN.out, HK0.out⟩
  case round =>
    obtain ⟨k, hk, rfl, rfl, hX, hN, hK⟩ := hrel
    have c0 : wr.cell? ⟨w.heap.size, 0, none⟩ = some (.slice a L.length c) := by rw [cell_block hX]; rfl
    have HX1 := Lib.hid hX
    have HN1 := Lib.hid hN
    have HK1 := Lib.hid hK
    by_cases hlt : k < L.length
    · obtain ⟨x, hx⟩ : ∃ x, L[k]? = some x := ⟨_, List.getElem?_eq_getElem hlt⟩
      obtain ⟨t1, t2, t3, t4⟩ := HLL.out x (List.mem_of_getElem? hx)
      have HT := Lib.hid (show textN L (k + 1) = insT k (textN L k) x by rw [textN, hx])
      have hD := owns_kept HD.out hK (fun _ _ h => h)
      obtain ⟨g0, g4, g5⟩ := codeV_get L k x hx
      obtain ⟨gb, rfl, i0, _⟩ := owns_cell hD g0
      obtain ⟨gb', hgb', i1, _⟩ := owns_cell hD g4
      cases hgb'
      obtain ⟨gb', hgb', i2, _⟩ := owns_cell hD g5
      cases hgb'
      have hn := name_get x.1.toNat (by omega)
      have n0 : wr.cell? ⟨w.heap.size + 1, x.1.toNat, none⟩ = some (.string (nameOf x.1.toNat)) := by rw [cell_block hN, hn.1]
      obtain ⟨op, A, W⟩ := x
      dsimp only at t1 t2 t3 t4 i0 i1 i2 n0 hn
      have hsz := HZ.out k
      have hnz := hn.2
      obtain ⟨o, rfl⟩ := Int.eq_ofNat_of_zero_le t1
      rw [Int.toNat_natCast] at n0 hn hnz
      clear hX hN hK hD g0 g4 g5 hx hn
      generalize hS : textN L k = S at *
      generalize hNm : nameOf o = N at *
      have ho16 : (o : Int) < 16 := t2
      have n1 : (wr.alloc (.cells #[.int .u8 (o : Int), .int .i64 A, .int .i64 W] 31)).cell? ⟨w.heap.size + 1, o, none⟩ = some (.string N) := (World.cell?_of_block (Below.heap_alloc _ _ _ (Array.getElem?_eq_some_iff.1 HN1.out).1)).trans n0
      have s1 : sp.size = 1 := rfl
      have hcat1 : ¬ 9223372036854775807 < S.size + 1 := by omega
      have hcat2 : ¬ 9223372036854775807 < S.size + 1 + N.size := by omega
      have hcat3 : ¬ 9223372036854775807 < S.size + N.size := by omega
      have hcat4 : ¬ 9223372036854775807 < S.size + 1 + N.size + 1 := by omega
      have hcat5 : ¬ 9223372036854775807 < S.size + N.size + 1 := by omega
      by_cases hop : (o : Int) = 1
      · have hopb : ((o : Int) == 1) = true := by simpa using hop
        rw [if_pos hop] at t3 t4
        obtain rfl : o = 1 := by omega
        replace i0 : wr.cell? ⟨gb, k * 3, none⟩ = some (.int .u8 1) := i0
        replace n1 : (wr.alloc (.cells #[.int .u8 1, .int .i64 A, .int .i64 W] 31)).cell? ⟨w.heap.size + 1, 1, none⟩ = some (.string N) := n1
        clear hopb ho16 t1 t2
        replace hop := Lib.hid hop
        by_cases hk0 : k = 0
        · have hk0i : ¬ (0 : Int) < (k : Int) := by omega
          replace hk0 := Lib.hid hk0
          obtain ⟨m, rfl⟩ := Int.eq_ofNat_of_zero_le t3
          have hm : m < 24 := by omega
          have HO := Lib.hid (of_any m hm)
          have HG := Lib.hid (signed10 m hm)
          have htz := txt_size m
          have hcat6 : ¬ 9223372036854775807 < S.size + 1 + N.size + 1 + (txt m).size := by omega
          have hcat7 : ¬ 9223372036854775807 < S.size + N.size + 1 + (txt m).size := by omega
          go_wp2_with (first
            | (go_at_call 30; refine (HO.out _).mono ?_; rintro e w1 ⟨rfl, K1⟩
               have HKA := Lib.hid ((HK1.out.alloc _).trans K1)
               have HXA := Lib.hid ((((Kept.refl NB wr).alloc _).trans K1).block w.heap.size (Array.getElem?_eq_some_iff.1 HX1.out).1 (fun h => h))
               have HNA := Lib.hid ((((Kept.refl NB wr).alloc _).trans K1).block (w.heap.size + 1) (Array.getElem?_eq_some_iff.1 HN1.out).1 (fun h => h))
               clear K1)
            | (go_at_call 29; refine (HG.out _).mono ?_; rintro e w2 ⟨rfl, K2⟩
               have HKB := Lib.hid (HKA.out.trans K2)
               have HXB := Lib.hid (((K2.block w.heap.size (by have := (Array.getElem?_eq_some_iff.1 (HXA.out.trans HX1.out)).1; omega) (fun h => h)).trans HXA.out).trans HX1.out)
               have HNB := Lib.hid (((K2.block (w.heap.size + 1) (by have := (Array.getElem?_eq_some_iff.1 (HNA.out.trans HN1.out)).1; omega) (fun h => h)).trans HNA.out).trans HN1.out)
               clear K2))
          go_roundw
          case rel => exact ⟨k + 1, by omega, by go_num, by rw [HT.out]; simp only [insT, numOf, hk0.out, if_true, hop.out, Int.toNat_natCast, show Int.toNat 1 = 1 from rfl, hNm]; rfl, HXB.out, HNB.out, HKB.out⟩
          case measure => simp [intOf]; omega
        · have hk0i : (0 : Int) < (k : Int) := by omega
          replace hk0 := Lib.hid hk0
          obtain ⟨m, rfl⟩ := Int.eq_ofNat_of_zero_le t3
          have hm : m < 24 := by omega
          have HO := Lib.hid (of_any m hm)
          have HG := Lib.hid (signed10 m hm)
          have htz := txt_size m
          have hcat6 : ¬ 9223372036854775807 < S.size + 1 + N.size + 1 + (txt m).size := by omega
          have hcat7 : ¬ 9223372036854775807 < S.size + N.size + 1 + (txt m).size := by omega
          go_wp2_with (first
            | (go_at_call 30; refine (HO.out _).mono ?_; rintro e w1 ⟨rfl, K1⟩
               have HKA := Lib.hid ((HK1.out.alloc _).trans K1)
               have HXA := Lib.hid ((((Kept.refl NB wr).alloc _).trans K1).block w.heap.size (Array.getElem?_eq_some_iff.1 HX1.out).1 (fun h => h))
               have HNA := Lib.hid ((((Kept.refl NB wr).alloc _).trans K1).block (w.heap.size + 1) (Array.getElem?_eq_some_iff.1 HN1.out).1 (fun h => h))
               clear K1)
            | (go_at_call 29; refine (HG.out _).mono ?_; rintro e w2 ⟨rfl, K2⟩
               have HKB := Lib.hid (HKA.out.trans K2)
               have HXB := Lib.hid (((K2.block w.heap.size (by have := (Array.getElem?_eq_some_iff.1 (HXA.out.trans HX1.out)).1; omega) (fun h => h)).trans HXA.out).trans HX1.out)
               have HNB := Lib.hid (((K2.block (w.heap.size + 1) (by have := (Array.getElem?_eq_some_iff.1 (HNA.out.trans HN1.out)).1; omega) (fun h => h)).trans HNA.out).trans HN1.out)
               clear K2))
          go_roundw
          case rel => exact ⟨k + 1, by omega, by go_num, by rw [HT.out]; simp only [insT, numOf, hk0.out, if_true, if_false, hop.out, Int.toNat_natCast, show Int.toNat 1 = 1 from rfl, hNm]; rfl, HXB.out, HNB.out, HKB.out⟩
          case measure => simp [intOf]; omega
      · have hopb : ((o : Int) == 1) = false := by simpa using hop
        rw [if_neg hop] at t3 t4
        by_cases hk0 : k = 0
        · have hk0i : ¬ (0 : Int) < (k : Int) := by omega
          replace hk0 := Lib.hid hk0
          obtain ⟨m, rfl⟩ := Int.eq_ofNat_of_zero_le t3
          have hm : m < 24 := by omega
          have HO := Lib.hid (of_any m hm)
          have HG := Lib.hid (signed10 m hm)
          have htz := txt_size m
          have hcat6 : ¬ 9223372036854775807 < S.size + 1 + N.size + 1 + (txt m).size := by omega
          have hcat7 : ¬ 9223372036854775807 < S.size + N.size + 1 + (txt m).size := by omega
          go_wp2_with (first
            | (go_at_call 30; refine (HO.out _).mono ?_; rintro e w1 ⟨rfl, K1⟩
               have HKA := Lib.hid ((HK1.out.alloc _).trans K1)
               have HXA := Lib.hid ((((Kept.refl NB wr).alloc _).trans K1).block w.heap.size (Array.getElem?_eq_some_iff.1 HX1.out).1 (fun h => h))
               have HNA := Lib.hid ((((Kept.refl NB wr).alloc _).trans K1).block (w.heap.size + 1) (Array.getElem?_eq_some_iff.1 HN1.out).1 (fun h => h))
               clear K1)
            | (go_at_call 29; refine (HG.out _).mono ?_; rintro e w2 ⟨rfl, K2⟩
               have HKB := Lib.hid (HKA.out.trans K2)
               have HXB := Lib.hid (((K2.block w.heap.size (by have := (Array.getElem?_eq_some_iff.1 (HXA.out.trans HX1.out)).1; omega) (fun h => h)).trans HXA.out).trans HX1.out)
               have HNB := Lib.hid (((K2.block (w.heap.size + 1) (by have := (Array.getElem?_eq_some_iff.1 (HNA.out.trans HN1.out)).1; omega) (fun h => h)).trans HNA.out).trans HN1.out)
               clear K2))
          go_roundw
          case rel => exact ⟨k + 1, by omega, by go_num, by rw [HT.out]; simp only [insT, numOf, hk0.out, if_true, if_false, hop, Int.toNat_natCast, hNm]; rfl, HXB.out, HNB.out, HKB.out⟩
          case measure => simp [intOf]; omega
        · have hk0i : (0 : Int) < (k : Int) := by omega
          replace hk0 := Lib.hid hk0
          obtain ⟨m, rfl⟩ := Int.eq_ofNat_of_zero_le t3
          have hm : m < 24 := by omega
          have HO := Lib.hid (of_any m hm)
          have HG := Lib.hid (signed10 m hm)
          have htz := txt_size m
          have hcat6 : ¬ 9223372036854775807 < S.size + 1 + N.size + 1 + (txt m).size := by omega
          have hcat7 : ¬ 9223372036854775807 < S.size + N.size + 1 + (txt m).size := by omega
          go_wp2_with (first
            | (go_at_call 30; refine (HO.out _).mono ?_; rintro e w1 ⟨rfl, K1⟩
               have HKA := Lib.hid ((HK1.out.alloc _).trans K1)
               have HXA := Lib.hid ((((Kept.refl NB wr).alloc _).trans K1).block w.heap.size (Array.getElem?_eq_some_iff.1 HX1.out).1 (fun h => h))
               have HNA := Lib.hid ((((Kept.refl NB wr).alloc _).trans K1).block (w.heap.size + 1) (Array.getElem?_eq_some_iff.1 HN1.out).1 (fun h => h))
               clear K1)
            | (go_at_call 29; refine (HG.out _).mono ?_; rintro e w2 ⟨rfl, K2⟩
               have HKB := Lib.hid (HKA.out.trans K2)
               have HXB := Lib.hid (((K2.block w.heap.size (by have := (Array.getElem?_eq_some_iff.1 (HXA.out.trans HX1.out)).1; omega) (fun h => h)).trans HXA.out).trans HX1.out)
               have HNB := Lib.hid (((K2.block (w.heap.size + 1) (by have := (Array.getElem?_eq_some_iff.1 (HNA.out.trans HN1.out)).1; omega) (fun h => h)).trans HNA.out).trans HN1.out)
               clear K2))
          go_roundw
          case rel => exact ⟨k + 1, by omega, by go_num, by rw [HT.out]; simp only [insT, numOf, hk0.out, if_false, hop, Int.toNat_natCast, hNm]; rfl, HXB.out, HNB.out, HKB.out⟩
          case measure => simp [intOf]; omega
    · obtain rfl : k = L.length := by omega
      go_wp2_with fail
      go_ret
      exact ⟨rfl, HK1.out⟩
end Go.Proofs.Ytdpoobkfhmmbjaa
