/- The walk of FlowPlays: both builders, part by part. -/
import Derived.Test.YtdpoobkfhmmbjaaBoth
import Derived.Deep.DeepCutAuto
import Derived.Deep.RegionHeld3
import Derived.BigQuiet
namespace Go.Proofs.Ytdpoobkfhmmbjaa
open Go.RowKit
theorem quiet_left {P : Program} {f : FuncId} {args : Array Value} {w : World} {n : Nat} {v : Value}
    (h : Calls P f args (w.drewN n) fun e w' => e = .returned v ∧ w.drewN n = w') : Calls P f args (w.drewN n) fun e w'' => e = .returned v ∧ ∃ m, w'' = w.drewN m :=
  h.mono fun _ _ ⟨he, hm⟩ => ⟨he, n, hm.symm⟩
theorem Duo.lenQ {N : Nat → Prop} {w : World} {p q : Nat} {s1 s2 : St} (D : Duo N w p q s1 s2) (n : Nat) : Calls Try.prog 23 #[.pointer (some ⟨p, 0, none⟩)] (w.drewN n) fun e w' => e = .returned (.int .i64 (s1.1.length : Int)) ∧ ∃ m, w' = w.drewN m := quiet_left (D.kept ((Kept.refl NB w).drewN n)).len
theorem Duo.openQ {N : Nat → Prop} {w : World} {p q : Nat} {s1 s2 : St} (D : Duo N w p q s1 s2) (n : Nat) : Calls Try.prog 19 #[.pointer (some ⟨p, 0, none⟩)] (w.drewN n) fun e w' => e = .returned (.int .i64 (s1.2.length : Int)) ∧ ∃ m, w' = w.drewN m := quiet_left (D.kept ((Kept.refl NB w).drewN n)).open
theorem New.all {W w : World} (K : Kept (New W) W w) : ∀ r, w.heap.size ≤ r → New W r := fun _r hr => Nat.le_trans K.size hr
theorem few_nil (u : World) : Calls Try.prog 20 #[.slice none 0 0] u fun e u' => e = .returned (.slice none 0 0) ∧ u = u' := by
  go_enter Try.func20, Try.ntmps20
  go_wp2_with fail
  all_goals (first | go_ret | skip)
  all_goals exact ⟨rfl, rfl⟩
theorem few_some (x : Addr) (len0 cap0 m : Nat) (hm : m = min len0 100) (h : len0 ≤ cap0) (u : World) : Calls Try.prog 20 #[.slice (some x) len0 cap0] u fun e u' => e = .returned (.slice (some x) m cap0) ∧ u = u' := by
  have hmin : (if (100 : Int) < (len0 : Int) then (100 : Int) else (len0 : Int)) = (m : Int) := by split <;> omega
  have hmc : m ≤ cap0 := by omega
  clear hm
  go_enter Try.func20, Try.ntmps20
  go_wp2_with fail
  all_goals (first | go_ret | skip)
  all_goals exact ⟨rfl, rfl⟩
set_option maxRecDepth 100000 in
set_option maxHeartbeats 16000000 in
theorem plays_any (v : Value) (a : Option Addr) (m c : Nat) (hm : m ≤ 100) (w : World) (HF : ∀ u, Calls Try.prog 20 #[v] u fun e u' => e = .returned (.slice a m c) ∧ u = u')
    (z : Nat → Int) (hz : ∀ i, i < m → ∃ x, a = some x ∧ w.cell? (x.add i) = some (.int .i8 (z i)) ∧ -128 ≤ z i ∧ z i < 128) :
    Calls Try.prog 6 #[v] w fun e w' => e = .returned (.bool true) ∧ Below w.heap.size w w' := by
  have HSH := Lib.hid (shown_any w)
  have HZ := Lib.hid hz
  have HF1 := Lib.hid HF
  clear hz HF
  go_enter Try.func6, Try.ntmps6
  try simp only [List.append]
  go_wp2_with fail
  refine HSH.out.mono ?_
  rintro e v1 ⟨rfl, K⟩
  have HK1 := Lib.hid (show Kept (New w) w v1 from K.mono (fun _ h => h.elim))
  have HN := Lib.hid (new_st (New w) v1 (New.all HK1.out))
  clear K
  go_wp2_with fail
  refine HN.out.mono ?_
  rintro e v2 ⟨pb, rfl, _, SB, K⟩
  have HD := Lib.hid (Duo.begin (N := New w) SB (fun _ h => h) (New.all (HK1.out.trans K)))
  have HK2 := Lib.hid ((HK1.out.trans K).alloc (.cells #[.slice none 0 0, .slice none 0 0] 50))
  clear SB K
  go_wp2_with fail
  refine (HF1.out _).mono ?_
  rintro e v3 ⟨rfl, hv3⟩
  rw [hv3] at HD HK2
  generalize v2.heap.size = pq at *
  clear hv3 HF1 HSH HN
  go_wp2_with fail
  go_loopw [22] (fun i wr => ∃ k : Nat, k ≤ m ∧ i = .int .i64 k ∧ ∃ s : St, Wf s ∧ s.2.length ≤ 32 ∧ s.1.length ≤ k ∧ Duo (New w) wr pb pq s s ∧ Kept (New w) w wr) (fun i _ => m - (intOf i).toNat)
  case atStart => exact ⟨0, by omega, rfl, ([], []), wf_nil, by simp, by simp, HD.out, HK2.out⟩
  case round =>
    clear HD HK2 HK1
    obtain ⟨k, hk, rfl, s, hW, hd, hsl, D, K⟩ := hrel
    have HD := Lib.hid D
    have HK := Lib.hid K
    have HW := Lib.hid hW
    clear D hW
    by_cases hlt : k < m
    · obtain ⟨x, rfl, z0, hz1, hz2⟩ := HZ.out k hlt
      have z1 := cell_old (New.old K) _ _ z0 (fun h => h)
      clear z0 K
      generalize z k = zk at *
      by_cases hneg : zk < 0
      · have hwz : IntKind.i64.wrap zk = zk := IntWalk.i64_in _ (by omega)
        have hl : s.1.length < 499 := by omega
        have HDW := Lib.hid (HD.out.but (.cells #[.int .u8 1, .int .i64 0, .int .i64 zk] 31))
        obtain ⟨wa, hwa⟩ : ∃ wa, wr.alloc (.cells #[.int .u8 1, .int .i64 0, .int .i64 zk] 31) = wa := ⟨_, rfl⟩
        have hbs : wa.heap.size = wr.heap.size + 1 := by rw [← hwa]; simp
        have hb : wa.heap[wr.heap.size]? = some (.cells #[.int .u8 1, .int .i64 0, .int .i64 zk] 31 (0, 0)) := by rw [← hwa]; exact (MapKept.heap_alloc wr _).1
        have HKA := Lib.hid (show Kept (New w) w wa by rw [← hwa]; exact HK.out.alloc _)
        rw [hwa] at HDW
        have HNN := Lib.hid (show ∀ (W : World) (S : Nat → Prop), Kept S wa W → ∀ r, W.heap.size ≤ r → New w r ∧ r ≠ wr.heap.size from fun W S K r hr => ⟨Nat.le_trans HKA.out.size (Nat.le_trans K.size hr), by have := K.size; omega⟩)
        have HC := Lib.hid (show ∀ W, Kept (fun r => New w r ∧ r ≠ wr.heap.size) wa W → W.cell? ⟨wr.heap.size, 0, none⟩ = some (.int .u8 1) ∧ W.cell? ⟨wr.heap.size, 1, none⟩ = some (.int .i64 0) ∧ W.cell? ⟨wr.heap.size, 2, none⟩ = some (.int .i64 zk) from fun W K => by
          have h := (K.block wr.heap.size (by omega) (fun h => h.2 rfl)).trans hb
          exact ⟨by rw [cell_block h]; rfl, by rw [cell_block h]; rfl, by rw [cell_block h]; rfl⟩)
        have HKd := Lib.hid (show Kept (fun r => New w r ∧ r ≠ wr.heap.size) wa wa.drew from (Kept.refl _ _).drew)
        have HL := Lib.hid hl
        clear hbs hb HK hl
        go_wp2_with fail
        clear hwa
        generalize wr.heap.size = b8 at *
        go_region_held3 (fun w' => w'.cell? ⟨b8, 0, none⟩ = some (.int .u8 1) ∧ w'.cell? ⟨b8, 1, none⟩ = some (.int .i64 0) ∧ w'.cell? ⟨b8, 2, none⟩ = some (.int .i64 zk))
          (first | exact HC.out _ HKd.out | exact HC.out _ HK1.out | exact HC.out _ HK2.out | exact HC.out _ (Kept.refl _ _))
          (first
            | (go_at_call 14; refine ((HDW.out.kept ((Kept.refl _ _).drew)).put1 (HNN.out _ _ HKd.out) HL.out zk).mono ?_; rintro e w1 ⟨rfl, D1, K1⟩
               have HD1 := Lib.hid D1
               have HK1 := Lib.hid (HKd.out.trans K1)
               clear D1 K1)
            | (go_at_call 21; refine (HD1.out.put2 (HNN.out _ _ HK1.out) HL.out zk).mono ?_; rintro e w2 ⟨rfl, D2, K2⟩
               have HD2 := Lib.hid D2
               have HK2 := Lib.hid (HK1.out.trans K2)
               clear D2 K2))
        have HKX := Lib.hid (HKA.out.trans (HK2.out.mono (T := New w) (fun r hr => hr.1)))
        obtain ⟨s1, hW1, hd1, hs1, D⟩ : ∃ s1 : St, Wf s1 ∧ s1.2.length ≤ 32 ∧ s1.1.length ≤ k + 1 ∧ Duo (New w) w2 pb pq s1 s1 := ⟨_, wf_put s HW.out HL.out (1, 0, zk), hd, by simp; omega, HD2.out.mono (fun r hr => hr.1)⟩
        clear HKA HNN HC HKd HD1 HK1 HD2 HK2 HDW
        have HDX := Lib.hid D
        have HWX := Lib.hid hW1
        have HLQ := Lib.hid D.lenQ
        have HOQ := Lib.hid D.openQ
        obtain ⟨a0, k0, a1, k1, c0, c1⟩ := D.cells
        have g1 : ((s1.1.length : Int) != (s1.1.length : Int)) = false := by simp
        have g2 : ((s1.2.length : Int) != (s1.2.length : Int)) = false := by simp
        clear D hW1 HD
        go_wp2_with fail
        go_big_quiet (first | (go_at_call 23; exact HLQ.out _) | (go_at_call 19; exact HOQ.out _))
        have HDY := Lib.hid (HDX.out.kept ((Kept.refl NB _).drewN nq))
        have HKY := Lib.hid (HKX.out.drewN nq)
        clear HDX HKX HLQ HOQ c0 c1
        go_wp2_with fail
        first
          | (refine ⟨⟨k + 1, by omega, by go_num, s1, HWX.out, hd1, hs1, HDY.out, HKY.out⟩, ?_⟩; simp [intOf]; omega)
          | (go_roundw; case rel => exact ⟨k + 1, by omega, by go_num, s1, HWX.out, hd1, hs1, HDY.out, HKY.out⟩; case measure => (simp [intOf]; omega))
      · have hwz : IntKind.i64.wrap zk = zk := IntWalk.i64_in _ (by omega)
        have HNN := Lib.hid (show ∀ (W : World), Kept (New w) w W → ∀ r, W.heap.size ≤ r → New w r from fun W K => New.all K)
        have M1 := Lib.hid (HD.out.do1 (HNN.out _ HK.out) HW.out hd zk)
        go_wp2_with fail
        with_reducible refine M1.out.mono ?_
        rintro e w1 ⟨rfl, D1, K1⟩
        have HK1 := Lib.hid (HK.out.trans K1)
        have M2 := Lib.hid (D1.do2 (HNN.out _ HK1.out) HW.out hd zk)
        clear D1 K1 M1
        have g0 : (ansS zk s != ansS zk s) = false := by simp
        go_wp2_with fail
        with_reducible refine M2.out.mono ?_
        rintro e w2 ⟨rfl, D2, K2⟩
        have HKX := Lib.hid (HK1.out.trans K2)
        obtain ⟨s1, hW1, hd1, hs1, D⟩ : ∃ s1 : St, Wf s1 ∧ s1.2.length ≤ 32 ∧ s1.1.length ≤ k + 1 ∧ Duo (New w) w2 pb pq s1 s1 := ⟨_, wf_do zk s HW.out, do_deep zk s hd, by have := do_one zk s; omega, D2⟩
        clear D2 K2 M2 HK1 HK HNN
        have HDX := Lib.hid D
        have HWX := Lib.hid hW1
        have HLQ := Lib.hid D.lenQ
        have HOQ := Lib.hid D.openQ
        obtain ⟨a0, k0, a1, k1, c0, c1⟩ := D.cells
        have g1 : ((s1.1.length : Int) != (s1.1.length : Int)) = false := by simp
        have g2 : ((s1.2.length : Int) != (s1.2.length : Int)) = false := by simp
        clear D hW1 HD
        go_wp2_with fail
        go_big_quiet (first | (go_at_call 23; exact HLQ.out _) | (go_at_call 19; exact HOQ.out _))
        have HDY := Lib.hid (HDX.out.kept ((Kept.refl NB _).drewN nq))
        have HKY := Lib.hid (HKX.out.drewN nq)
        clear HDX HKX HLQ HOQ c0 c1
        go_wp2_with fail
        first
          | (refine ⟨⟨k + 1, by omega, by go_num, s1, HWX.out, hd1, hs1, HDY.out, HKY.out⟩, ?_⟩; simp [intOf]; omega)
          | (go_roundw; case rel => exact ⟨k + 1, by omega, by go_num, s1, HWX.out, hd1, hs1, HDY.out, HKY.out⟩; case measure => (simp [intOf]; omega))
    · obtain rfl : k = m := by omega
      obtain ⟨code, st⟩ := s
      clear K
      dsimp only at hsl hd
      have hl6 : code.length < 499 := by omega
      by_cases hz : st = []
      · subst hz
        have HE1 := Lib.hid (HD.out.end1 (New.all HK.out) (by omega))
        clear HD
        go_wp2_with fail
        with_reducible refine HE1.out.mono ?_
        rintro e t1 ⟨g, gc, rfl, H, K⟩
        have HH := Lib.hid (H.but (.cells #[.slice (some ⟨g, 0, none⟩) (code.length + 1) gc] 34))
        obtain ⟨ta, hta⟩ : ∃ ta, t1.alloc (.cells #[.slice (some ⟨g, 0, none⟩) (code.length + 1) gc] 34) = ta := ⟨_, rfl⟩
        have hts : ta.heap.size = t1.heap.size + 1 := by rw [← hta]; simp
        have hb := (MapKept.heap_alloc t1 (.cells #[.slice (some ⟨g, 0, none⟩) (code.length + 1) gc] 34)).1
        have HKA := Lib.hid (show Kept (New w) w ta by rw [← hta]; exact (HK.out.trans K).alloc _)
        rw [hta] at HH hb
        have HE2 := Lib.hid (HH.out.end2 (fun r hr => ⟨New.all HKA.out r hr, by omega⟩) (by omega))
        have HB := Lib.hid hb
        clear H K HE1 HH HK hb
        go_wp2_with fail
        clear hta
        generalize t1.heap.size = b9 at *
        with_reducible refine HE2.out.mono ?_
        rintro e t2 ⟨g2, gc2, rfl, H, K⟩
        obtain ⟨tb, htb⟩ : ∃ tb, t2.alloc (.cells #[.slice (some ⟨g2, 0, none⟩) (code.length + 1) gc2] 34) = tb := ⟨_, rfl⟩
        have hK3 := (Kept.refl NB t2).alloc (.cells #[.slice (some ⟨g2, 0, none⟩) (code.length + 1) gc2] 34)
        have hb2 := (MapKept.heap_alloc t2 (.cells #[.slice (some ⟨g2, 0, none⟩) (code.length + 1) gc2] 34)).1
        rw [htb] at hK3 hb2
        have HX := Lib.hid (H.kept hK3)
        have hbk : tb.heap[b9]? = some (.cells #[.slice (some ⟨g, 0, none⟩) (code.length + 1) gc] 34 (0, 0)) := (hK3.block b9 (by have := K.size; omega) (fun h => h)).trans ((K.block b9 (by omega) (fun h => h.2 rfl)).trans HB.out)
        have HKB := Lib.hid ((HKA.out.trans (K.mono (T := New w) (fun r hr => hr.1))).trans (hK3.mono (T := New w) (fun _ h => h.elim)))
        have HC := Lib.hid (show ∀ W, Kept NB tb W → W.cell? ⟨b9, 0, none⟩ = some (.slice (some ⟨g, 0, none⟩) (code.length + 1) gc) ∧ W.cell? ⟨t2.heap.size, 0, none⟩ = some (.slice (some ⟨g2, 0, none⟩) (code.length + 1) gc2) ∧ W.cell? ⟨pq, 0, none⟩ = some (.slice none 0 0) from fun W K => by
          have h1 := (K.block _ (Array.getElem?_eq_some_iff.1 hbk).1 (fun h => h)).trans hbk
          have h2 := (K.block _ (Array.getElem?_eq_some_iff.1 hb2).1 (fun h => h)).trans hb2
          exact ⟨by rw [cell_block h1]; rfl, by rw [cell_block h2]; rfl, (HX.out.kept K).2.2.1⟩)
        have HKd := Lib.hid (show Kept NB tb tb.drew from (Kept.refl _ _).drew)
        clear H K HE2 HKA HB hK3 hb2 hbk hts
        go_wp2_with fail
        clear htb
        generalize t2.heap.size = b11 at *
        go_region_held3 (fun w' => w'.cell? ⟨b9, 0, none⟩ = some (.slice (some ⟨g, 0, none⟩) (code.length + 1) gc) ∧ w'.cell? ⟨b11, 0, none⟩ = some (.slice (some ⟨g2, 0, none⟩) (code.length + 1) gc2) ∧ w'.cell? ⟨pq, 0, none⟩ = some (.slice none 0 0))
          (first | exact HC.out _ HKd.out | exact HC.out _ HK3.out | exact HC.out _ (Kept.refl _ _))
          (first
            | (go_at_call 25; refine ((HX.out.kept HKd.out).same hl6).mono ?_; rintro e t3 ⟨rfl, K⟩
               have HK3 := Lib.hid (HKd.out.trans K)
               clear K)
            | (go_at_call 23; refine ((HX.out.kept HK3.out).len).mono ?_; rintro e t4 ⟨rfl, rfl⟩))
        all_goals go_wp2_with fail
        all_goals (first | go_ret | skip)
        all_goals exact ⟨rfl, New.fin (HKB.out.trans (HK3.out.mono (T := New w) (fun _ h => h.elim)))⟩
      · have hz0 : 0 < st.length := by cases st with | nil => exact absurd rfl hz | cons _ _ => simp
        have HE1 := Lib.hid (HD.out.end_open1 hz0 hd)
        clear HD
        go_wp2_with fail
        with_reducible refine HE1.out.mono ?_
        rintro e t1 ⟨rfl, H, K⟩
        have HH := Lib.hid (H.but (.cells #[.slice none 0 0] 34))
        have hts : (t1.alloc (.cells #[.slice none 0 0] 34)).heap.size = t1.heap.size + 1 := by simp
        have hb := (MapKept.heap_alloc t1 (.cells #[.slice none 0 0] 34)).1
        have HKA := Lib.hid (show Kept (New w) w (t1.alloc (.cells #[.slice none 0 0] 34)) from (HK.out.trans K).alloc _)
        have HE2 := Lib.hid (HH.out.end_open2 hz0 hd)
        have HB := Lib.hid hb
        clear H K HE1 HH HK hb
        go_wp2_with fail
        generalize t1.heap.size = b9 at *
        with_reducible refine HE2.out.mono ?_
        rintro e t2 ⟨rfl, H, K⟩
        have hK3 := (Kept.refl NB t2).alloc (.cells #[.slice none 0 0] 34)
        have hb2 := (MapKept.heap_alloc t2 (.cells #[.slice none 0 0] 34)).1
        have HX := Lib.hid (H.kept hK3)
        have hbk : (t2.alloc (.cells #[.slice none 0 0] 34)).heap[b9]? = some (.cells #[.slice none 0 0] 34 (0, 0)) := (hK3.block b9 (by have := K.size; omega) (fun h => h)).trans ((K.block b9 (by omega) (fun h => h.2 rfl)).trans HB.out)
        have HKB := Lib.hid ((HKA.out.trans (K.mono (T := New w) (fun r hr => hr.1))).trans (hK3.mono (T := New w) (fun _ h => h.elim)))
        obtain ⟨a0, k0, a1, k1, c0, _⟩ := HX.out.cells
        have HC := Lib.hid (show ∀ W, Kept NB (t2.alloc (.cells #[.slice none 0 0] 34)) W → W.cell? ⟨b9, 0, none⟩ = some (.slice none 0 0) ∧ W.cell? ⟨t2.heap.size, 0, none⟩ = some (.slice none 0 0) ∧ W.cell? ⟨pq, 0, none⟩ = some (.slice a0 code.length k0) from fun W K => by
          have h1 := (K.block _ (Array.getElem?_eq_some_iff.1 hbk).1 (fun h => h)).trans hbk
          have h2 := (K.block _ (Array.getElem?_eq_some_iff.1 hb2).1 (fun h => h)).trans hb2
          exact ⟨by rw [cell_block h1]; rfl, by rw [cell_block h2]; rfl, cell_old K _ _ c0 (fun h => h)⟩)
        have HKd := Lib.hid (show Kept NB (t2.alloc (.cells #[.slice none 0 0] 34)) (t2.alloc (.cells #[.slice none 0 0] 34)).drew from (Kept.refl _ _).drew)
        have HSM := Lib.hid (same_any [] (.slice none 0 0) (.slice none 0 0) (t2.alloc (.cells #[.slice none 0 0] 34)).drew (World.ownsRow_nil _ _ _ _) (World.ownsRow_nil _ _ _ _) (by simp))
        clear H K HE2 HKA HB hK3 hb2 hbk hts c0
        go_wp2_with fail
        generalize t2.heap.size = b11 at *
        generalize t2.alloc (.cells #[.slice none 0 0] 34) = tb at *
        go_region_held3 (fun w' => w'.cell? ⟨b9, 0, none⟩ = some (.slice none 0 0) ∧ w'.cell? ⟨b11, 0, none⟩ = some (.slice none 0 0) ∧ w'.cell? ⟨pq, 0, none⟩ = some (.slice a0 code.length k0))
          (first | exact HC.out _ HKd.out | exact HC.out _ HK3.out | exact HC.out _ (Kept.refl _ _))
          (first
            | (go_at_call 25; refine HSM.out.mono ?_; rintro e t3 ⟨rfl, K⟩
               have HK3 := Lib.hid (HKd.out.trans K)
               clear K)
            | (go_at_call 23; refine ((HX.out.kept HK3.out).len).mono ?_; rintro e t4 ⟨rfl, rfl⟩))
        all_goals go_wp2_with fail
        all_goals (first | go_ret | skip)
        all_goals exact ⟨rfl, New.fin (HKB.out.trans (HK3.out.mono (T := New w) (fun _ h => h.elim)))⟩
theorem walk_FlowPlays (a0 : Option Addr) (len0 cap0 : Nat) (z0 : List Int) (w : World) (w0 : (a0 = none ∧ len0 = 0 ∧ cap0 = 0 ∧ z0 = []) ∨
    ∃ x, a0 = some x ∧ len0 ≤ cap0 ∧ cap0 ≤ maxLen ∧ z0.length = cap0 ∧ (∀ i, i < z0.length → w.cell? (x.add i) = some (.int .i8 (z0.getD i 0))) ∧ ∀ n ∈ z0, (Lit.int .i8 n).wf = true) :
    Calls Try.prog 6 #[.slice a0 len0 cap0] w fun e w' => e = .returned (.bool true) ∧ Below w.heap.size w w' := by
  rcases w0 with ⟨rfl, rfl, rfl, rfl⟩ | ⟨x, rfl, h1, h2, h3, h4, h5⟩
  · exact plays_any _ none 0 0 (by omega) w few_nil (fun _ => 0) (fun i hi => absurd hi (by omega))
  · refine plays_any _ (some x) (min len0 100) cap0 (by omega) w (few_some x len0 cap0 _ rfl h1) (fun i => z0.getD i 0) (fun i hi => ⟨x, rfl, h4 i (by omega), ?_⟩)
    have hmem : z0.getD i 0 ∈ z0 := by rw [List.getD_eq_getElem?_getD, List.getElem?_eq_getElem (show i < z0.length by omega)]; exact List.getElem_mem _
    have := h5 _ hmem
    show -128 ≤ z0.getD i 0 ∧ z0.getD i 0 < 128
    clear hmem
    generalize z0.getD i 0 = q at *
    simp [Lit.wf, IntKind.min, IntKind.max, IntKind.signed, IntKind.bits] at this
    omega
end Go.Proofs.Ytdpoobkfhmmbjaa
