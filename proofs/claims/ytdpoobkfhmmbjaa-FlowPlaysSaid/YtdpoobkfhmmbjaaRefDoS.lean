/- The reference's Do, on the plain state: a choice's place is not kept there. -/
import Derived.Test.YtdpoobkfhmmbjaaRefDo
import Derived.Test.YtdpoobkfhmmbjaaRefDoB
import Derived.Test.YtdpoobkfhmmbjaaRefNo
import Derived.Test.YtdpoobkfhmmbjaaDoAll
namespace Go.Proofs.Ytdpoobkfhmmbjaa
open Go.RowKit
/-- a part as the reference keeps it -/
def nz (q : Prt) : Prt := if q.kind = 3 then ⟨3, 0, q.gaps⟩ else q
theorem nz_kind (q : Prt) : (nz q).kind = q.kind := by
  unfold nz
  split
  · rename_i h; exact h.symm
  · rfl
theorem nz_not3 {q : Prt} (h : q.kind ≠ 3) : nz q = q := if_neg h
theorem nz_3 {q : Prt} (h : q.kind = 3) : nz q = ⟨3, 0, q.gaps⟩ := if_pos h
theorem fits_nz (st : List Prt) (ks : List Int) : fitsS (st.map nz) ks = fitsS st ks := by
  induction ks generalizing st with
  | nil => cases st <;> rfl
  | cons k ks ih =>
    cases st with
    | nil => rfl
    | cons q r =>
      show ((nz q).kind == k && fitsS (r.map nz) ks) = (q.kind == k && fitsS r ks)
      rw [nz_kind, ih]
theorem loop_nz (st : List Prt) : hasLoop (st.map nz) = hasLoop st := by
  induction st with
  | nil => rfl
  | cons q r ih =>
    show ((nz q).kind == 2 || hasLoop (r.map nz)) = (q.kind == 2 || hasLoop r)
    rw [nz_kind, ih]
theorem asks_nz (n : Nat) (st : List Prt) : asksB n (st.map nz) = asksB n st := by
  unfold asksB
  split
  · exact loop_nz st
  · exact fits_nz st _
theorem ans_asks (m : Nat) (h1 : 1 ≤ m) (h2 : m ≤ 17) (code : List I3) (st : List Prt) :
    ansS (m : Int) (code, st) = if asksB m st = false then -22 else if (laysOf m ≠ 0 ∧ 499 ≤ code.length) ∨ (opensB m = true ∧ 32 ≤ st.length) then -8 else 0 := by
  rw [ansS, if_pos (by omega), show ((m : Int)).toNat = m from rfl]
  dsimp only
  have e1 : (!fitsS st (asksOf m) || ((m : Int) == 13 && !hasLoop st)) = !asksB m st := by
    unfold asksB
    by_cases h : m = 13
    · subst h
      rw [if_pos rfl, show asksOf 13 = [] from rfl, fits_nil]
      simp
    · rw [if_neg h]
      have : ((m : Int) == 13) = false := by simp; omega
      rw [this]; simp
  have e2 : ((laysOf m != 0 && decide (499 ≤ code.length)) || (decide (0 < moreOf m) && decide (32 ≤ st.length))) = decide ((laysOf m ≠ 0 ∧ 499 ≤ code.length) ∨ (opensB m = true ∧ 32 ≤ st.length)) := by
    rw [Bool.eq_iff_iff]
    simp [opensB]
  rw [e1, e2]
  cases asksB m st <;> simp
def RBldS (F : Nat → Prop) (w : World) (p : Nat) (code : List I3) (st : List Prt) : Prop := ∃ vc vp ps, RBld F w p vc vp code ps ∧ ps.map (·.1) = (st.map nz).reverse
def RDoPost (F : Nat → Prop) (w : World) (p : Nat) (r : Int) (s : St) (e : Ending) (w' : World) : Prop := e = .returned (.int .i64 r) ∧ RBldS F w' p s.1 s.2 ∧ Kept (fun r => r = p) w w'
section
variable {F : Nat → Prop} {w : World} {p : Nat} {code : List I3} {st : List Prt}
theorem map_snocR {ps : List (Prt × Value)} {q : Prt} {r : List Prt} (h : ps.map (·.1) = ((q :: r).map nz).reverse) : ∃ ps' gv, ps = ps' ++ [(nz q, gv)] ∧ ps'.map (·.1) = (r.map nz).reverse := map_snoc (st := r.map nz) (q := nz q) h
theorem rdo_ok1 (S : RBldS F w p code st) (hF : ∀ r, w.heap.size ≤ r → F r) (hW : Wf (code, st)) (hst : st.length < 32) (hask : asksB 1 st = true) (hlen : code.length < 499) :
    Calls Try.prog 22 #[.pointer (some ⟨p, 0, none⟩), .int .i64 1] w (RDoPost F w p 0 (actS 1 (code.length : Int) (laidS 1 code, st))) := by
  obtain ⟨vc, vp, ps, B, hm⟩ := S
  have hpl : ps.length = st.length := by have := congrArg List.length hm; simpa using this
  have hW2 := hW.parts
  dsimp only at hW2
  have hrev : asksB 1 (ps.map (·.1)).reverse = true := by rw [hm, List.reverse_reverse, asks_nz]; exact hask
  refine (rdo_1 ps  B hF hlen (by (try simp at hpl); (try simp); (try simp at hst); omega) hrev ).mono fun e w' ⟨he, ⟨vc', vp', ps', hb, hp⟩, hk⟩ => ⟨he, ⟨vc', vp', ps', ?_, ?_⟩, hk⟩
  · simpa [actS, laidS, laysOf, closeG, setA_length] using hb
  · rw [hp, hm]; simp [actS, nz]
theorem rdo_ok2 (S : RBldS F w p code st) (hF : ∀ r, w.heap.size ≤ r → F r) (hW : Wf (code, st)) (hst : st.length ≤ 32) (hask : asksB 2 st = true) (hlen : code.length < 499) :
    Calls Try.prog 22 #[.pointer (some ⟨p, 0, none⟩), .int .i64 2] w (RDoPost F w p 0 (actS 2 (code.length : Int) (laidS 2 code, st))) := by
  obtain ⟨vc, vp, ps, B, hm⟩ := S
  have hpl : ps.length = st.length := by have := congrArg List.length hm; simpa using this
  have hW2 := hW.parts
  dsimp only at hW2
  have hrev : asksB 2 (ps.map (·.1)).reverse = true := by rw [hm, List.reverse_reverse, asks_nz]; exact hask
  obtain ⟨q, r, rfl, hq⟩ := fits1 (k := 0) hask
  obtain ⟨ps1, g1, rfl, hm1⟩ := map_snocR hm
  have hw0 := hW2 q (by simp)
  rw [nz_not3 (q := q) (by omega)] at B hpl hrev
  obtain ⟨k0, a0, s0⟩ := q
  dsimp only at hq hw0
  subst hq
  refine (rdo_2 ps1 0 a0 s0 g1 B hF hlen (by (try simp at hpl); (try simp); (try simp at hst); omega) hrev ⟨hw0.1, hw0.2.2.1 (.inl rfl)⟩).mono fun e w' ⟨he, ⟨vc', vp', ps', hb, hp⟩, hk⟩ => ⟨he, ⟨vc', vp', ps', ?_, ?_⟩, hk⟩
  · simpa [actS, laidS, laysOf, closeG, setA_length] using hb
  · rw [hp, hm1]; simp [actS, nz]
theorem rdo_ok3 (S : RBldS F w p code st) (hF : ∀ r, w.heap.size ≤ r → F r) (hW : Wf (code, st)) (hst : st.length ≤ 32) (hask : asksB 3 st = true) :
    Calls Try.prog 22 #[.pointer (some ⟨p, 0, none⟩), .int .i64 3] w (RDoPost F w p 0 (actS 3 (code.length : Int) (laidS 3 code, st))) := by
  obtain ⟨vc, vp, ps, B, hm⟩ := S
  have hpl : ps.length = st.length := by have := congrArg List.length hm; simpa using this
  have hlen : code.length ≤ 499 := hW.len
  have hW2 := hW.parts
  dsimp only at hW2
  have hrev : asksB 3 (ps.map (·.1)).reverse = true := by rw [hm, List.reverse_reverse, asks_nz]; exact hask
  obtain ⟨q, r, rfl, hq⟩ := fits1 (k := 0) hask
  obtain ⟨ps1, g1, rfl, hm1⟩ := map_snocR hm
  have hw0 := hW2 q (by simp)
  rw [nz_not3 (q := q) (by omega)] at B hpl hrev
  obtain ⟨k0, a0, s0⟩ := q
  dsimp only at hq hw0
  subst hq
  refine (rdo_3 ps1 0 a0 s0 g1 B hF hlen (by (try simp at hpl); (try simp); (try simp at hst); omega) hrev ⟨hw0.1, hw0.2.2.1 (.inl rfl)⟩).mono fun e w' ⟨he, ⟨vc', vp', ps', hb, hp⟩, hk⟩ => ⟨he, ⟨vc', vp', ps', ?_, ?_⟩, hk⟩
  · simpa [actS, laidS, laysOf, closeG, setA_length] using hb
  · rw [hp, hm1]; simp [actS]
theorem rdo_ok4 (S : RBldS F w p code st) (hF : ∀ r, w.heap.size ≤ r → F r) (hW : Wf (code, st)) (hst : st.length < 32) (hask : asksB 4 st = true) :
    Calls Try.prog 22 #[.pointer (some ⟨p, 0, none⟩), .int .i64 4] w (RDoPost F w p 0 (actS 4 (code.length : Int) (laidS 4 code, st))) := by
  obtain ⟨vc, vp, ps, B, hm⟩ := S
  have hpl : ps.length = st.length := by have := congrArg List.length hm; simpa using this
  have hlen : code.length ≤ 499 := hW.len
  have hW2 := hW.parts
  dsimp only at hW2
  have hrev : asksB 4 (ps.map (·.1)).reverse = true := by rw [hm, List.reverse_reverse, asks_nz]; exact hask
  refine (rdo_4 ps  B hF hlen (by (try simp at hpl); (try simp); (try simp at hst); omega) hrev ).mono fun e w' ⟨he, ⟨vc', vp', ps', hb, hp⟩, hk⟩ => ⟨he, ⟨vc', vp', ps', ?_, ?_⟩, hk⟩
  · simpa [actS, laidS, laysOf, closeG, setA_length] using hb
  · rw [hp, hm]; simp [actS, nz]
theorem rdo_ok5 (S : RBldS F w p code st) (hF : ∀ r, w.heap.size ≤ r → F r) (hW : Wf (code, st)) (hst : st.length < 32) (hask : asksB 5 st = true) (hlen : code.length < 499) :
    Calls Try.prog 22 #[.pointer (some ⟨p, 0, none⟩), .int .i64 5] w (RDoPost F w p 0 (actS 5 (code.length : Int) (laidS 5 code, st))) := by
  obtain ⟨vc, vp, ps, B, hm⟩ := S
  have hpl : ps.length = st.length := by have := congrArg List.length hm; simpa using this
  have hW2 := hW.parts
  dsimp only at hW2
  have hrev : asksB 5 (ps.map (·.1)).reverse = true := by rw [hm, List.reverse_reverse, asks_nz]; exact hask
  obtain ⟨q, r, rfl, hq⟩ := fits1 (k := 1) hask
  obtain ⟨ps1, g1, rfl, hm1⟩ := map_snocR hm
  have hw0 := hW2 q (by simp)
  rw [nz_not3 (q := q) (by omega)] at B hpl hrev
  obtain ⟨k0, a0, s0⟩ := q
  dsimp only at hq hw0
  subst hq
  refine (rdo_5 ps1 1 a0 s0 g1 B hF hlen (by (try simp at hpl); (try simp); (try simp at hst); omega) hrev ).mono fun e w' ⟨he, ⟨vc', vp', ps', hb, hp⟩, hk⟩ => ⟨he, ⟨vc', vp', ps', ?_, ?_⟩, hk⟩
  · simpa [actS, laidS, laysOf, closeG, setA_length] using hb
  · rw [hp, hm1]; simp [actS, nz]
theorem rdo_ok6 (S : RBldS F w p code st) (hF : ∀ r, w.heap.size ≤ r → F r) (hW : Wf (code, st)) (hst : st.length ≤ 32) (hask : asksB 6 st = true) (hlen : code.length < 499) :
    Calls Try.prog 22 #[.pointer (some ⟨p, 0, none⟩), .int .i64 6] w (RDoPost F w p 0 (actS 6 (code.length : Int) (laidS 6 code, st))) := by
  obtain ⟨vc, vp, ps, B, hm⟩ := S
  have hpl : ps.length = st.length := by have := congrArg List.length hm; simpa using this
  have hW2 := hW.parts
  dsimp only at hW2
  have hrev : asksB 6 (ps.map (·.1)).reverse = true := by rw [hm, List.reverse_reverse, asks_nz]; exact hask
  obtain ⟨q, q2, r, rfl, hq, hq2⟩ := fits2 (k := 1) (k2 := 0) hask
  obtain ⟨ps1, g1, rfl, hm1⟩ := map_snocR hm
  obtain ⟨ps2, g2, rfl, hm2⟩ := map_snocR hm1
  have hw0 := hW2 q (by simp)
  rw [nz_not3 (q := q) (by omega)] at B hpl hrev
  have hw1 := hW2 q2 (by simp)
  rw [nz_not3 (q := q2) (by omega)] at B hpl hrev
  obtain ⟨k0, a0, s0⟩ := q
  dsimp only at hq hw0
  subst hq
  obtain ⟨k1, a1, s1⟩ := q2
  dsimp only at hq2 hw1
  subst hq2
  refine (rdo_6 ps2 1 a0 s0 g1 0 a1 s1 g2 B hF hlen (by (try simp at hpl); (try simp); (try simp at hst); omega) hrev ⟨hw1.1, hw1.2.2.1 (.inl rfl)⟩).mono fun e w' ⟨he, ⟨vc', vp', ps', hb, hp⟩, hk⟩ => ⟨he, ⟨vc', vp', ps', ?_, ?_⟩, hk⟩
  · simpa [actS, laidS, laysOf, closeG, setA_length] using hb
  · rw [hp, hm2]; simp [actS]
theorem rdo_ok7 (S : RBldS F w p code st) (hF : ∀ r, w.heap.size ≤ r → F r) (hW : Wf (code, st)) (hst : st.length ≤ 32) (hask : asksB 7 st = true) (hlen : code.length < 499) :
    Calls Try.prog 22 #[.pointer (some ⟨p, 0, none⟩), .int .i64 7] w (RDoPost F w p 0 (actS 7 (code.length : Int) (laidS 7 code, st))) := by
  obtain ⟨vc, vp, ps, B, hm⟩ := S
  have hpl : ps.length = st.length := by have := congrArg List.length hm; simpa using this
  have hW2 := hW.parts
  dsimp only at hW2
  have hrev : asksB 7 (ps.map (·.1)).reverse = true := by rw [hm, List.reverse_reverse, asks_nz]; exact hask
  obtain ⟨q, r, rfl, hq⟩ := fits1 (k := 1) hask
  obtain ⟨ps1, g1, rfl, hm1⟩ := map_snocR hm
  have hw0 := hW2 q (by simp)
  rw [nz_not3 (q := q) (by omega)] at B hpl hrev
  obtain ⟨k0, a0, s0⟩ := q
  dsimp only at hq hw0
  subst hq
  refine (rdo_7 ps1 1 a0 s0 g1 B hF hlen (by (try simp at hpl); (try simp); (try simp at hst); omega) hrev ).mono fun e w' ⟨he, ⟨vc', vp', ps', hb, hp⟩, hk⟩ => ⟨he, ⟨vc', vp', ps', ?_, ?_⟩, hk⟩
  · simpa [actS, laidS, laysOf, closeG, setA_length] using hb
  · rw [hp, hm1]; simp [actS]
theorem rdo_ok8 (S : RBldS F w p code st) (hF : ∀ r, w.heap.size ≤ r → F r) (hW : Wf (code, st)) (hst : st.length ≤ 32) (hask : asksB 8 st = true) (hlen : code.length < 499) :
    Calls Try.prog 22 #[.pointer (some ⟨p, 0, none⟩), .int .i64 8] w (RDoPost F w p 0 (actS 8 (code.length : Int) (laidS 8 code, st))) := by
  obtain ⟨vc, vp, ps, B, hm⟩ := S
  have hpl : ps.length = st.length := by have := congrArg List.length hm; simpa using this
  have hW2 := hW.parts
  dsimp only at hW2
  have hrev : asksB 8 (ps.map (·.1)).reverse = true := by rw [hm, List.reverse_reverse, asks_nz]; exact hask
  obtain ⟨q, r, rfl, hq⟩ := fits1 (k := 1) hask
  obtain ⟨ps1, g1, rfl, hm1⟩ := map_snocR hm
  have hw0 := hW2 q (by simp)
  rw [nz_not3 (q := q) (by omega)] at B hpl hrev
  obtain ⟨k0, a0, s0⟩ := q
  dsimp only at hq hw0
  subst hq
  refine (rdo_8 ps1 1 a0 s0 g1 B hF hlen (by (try simp at hpl); (try simp); (try simp at hst); omega) hrev ).mono fun e w' ⟨he, ⟨vc', vp', ps', hb, hp⟩, hk⟩ => ⟨he, ⟨vc', vp', ps', ?_, ?_⟩, hk⟩
  · simpa [actS, laidS, laysOf, closeG, setA_length] using hb
  · rw [hp, hm1]; simp [actS]
theorem rdo_ok9 (S : RBldS F w p code st) (hF : ∀ r, w.heap.size ≤ r → F r) (hW : Wf (code, st)) (hst : st.length < 32) (hask : asksB 9 st = true) (hlen : code.length < 499) :
    Calls Try.prog 22 #[.pointer (some ⟨p, 0, none⟩), .int .i64 9] w (RDoPost F w p 0 (actS 9 (code.length : Int) (laidS 9 code, st))) := by
  obtain ⟨vc, vp, ps, B, hm⟩ := S
  have hpl : ps.length = st.length := by have := congrArg List.length hm; simpa using this
  have hW2 := hW.parts
  dsimp only at hW2
  have hrev : asksB 9 (ps.map (·.1)).reverse = true := by rw [hm, List.reverse_reverse, asks_nz]; exact hask
  refine (rdo_9 ps  B hF hlen (by (try simp at hpl); (try simp); (try simp at hst); omega) hrev ).mono fun e w' ⟨he, ⟨vc', vp', ps', hb, hp⟩, hk⟩ => ⟨he, ⟨vc', vp', ps', ?_, ?_⟩, hk⟩
  · simpa [actS, laidS, laysOf, closeG, setA_length] using hb
  · rw [hp, hm]; simp [actS, nz]
theorem rdo_ok10 (S : RBldS F w p code st) (hF : ∀ r, w.heap.size ≤ r → F r) (hW : Wf (code, st)) (hst : st.length < 32) (hask : asksB 10 st = true) (hlen : code.length < 499) :
    Calls Try.prog 22 #[.pointer (some ⟨p, 0, none⟩), .int .i64 10] w (RDoPost F w p 0 (actS 10 (code.length : Int) (laidS 10 code, st))) := by
  obtain ⟨vc, vp, ps, B, hm⟩ := S
  have hpl : ps.length = st.length := by have := congrArg List.length hm; simpa using this
  have hW2 := hW.parts
  dsimp only at hW2
  have hrev : asksB 10 (ps.map (·.1)).reverse = true := by rw [hm, List.reverse_reverse, asks_nz]; exact hask
  refine (rdo_10 ps  B hF hlen (by (try simp at hpl); (try simp); (try simp at hst); omega) hrev ).mono fun e w' ⟨he, ⟨vc', vp', ps', hb, hp⟩, hk⟩ => ⟨he, ⟨vc', vp', ps', ?_, ?_⟩, hk⟩
  · simpa [actS, laidS, laysOf, closeG, setA_length] using hb
  · rw [hp, hm]; simp [actS, nz]
theorem rdo_ok11 (S : RBldS F w p code st) (hF : ∀ r, w.heap.size ≤ r → F r) (hW : Wf (code, st)) (hst : st.length ≤ 32) (hask : asksB 11 st = true) (hlen : code.length < 499) :
    Calls Try.prog 22 #[.pointer (some ⟨p, 0, none⟩), .int .i64 11] w (RDoPost F w p 0 (actS 11 (code.length : Int) (laidS 11 code, st))) := by
  obtain ⟨vc, vp, ps, B, hm⟩ := S
  have hpl : ps.length = st.length := by have := congrArg List.length hm; simpa using this
  have hW2 := hW.parts
  dsimp only at hW2
  have hrev : asksB 11 (ps.map (·.1)).reverse = true := by rw [hm, List.reverse_reverse, asks_nz]; exact hask
  obtain ⟨q, r, rfl, hq⟩ := fits1 (k := 2) hask
  obtain ⟨ps1, g1, rfl, hm1⟩ := map_snocR hm
  have hw0 := hW2 q (by simp)
  rw [nz_not3 (q := q) (by omega)] at B hpl hrev
  obtain ⟨k0, a0, s0⟩ := q
  dsimp only at hq hw0
  subst hq
  refine (rdo_11 ps1 2 a0 s0 g1 B hF hlen (by (try simp at hpl); (try simp); (try simp at hst); omega) hrev hw0.2.2.2.1).mono fun e w' ⟨he, ⟨vc', vp', ps', hb, hp⟩, hk⟩ => ⟨he, ⟨vc', vp', ps', ?_, ?_⟩, hk⟩
  · simpa [actS, laidS, laysOf, closeG, setA_length] using hb
  · rw [hp, hm1]; simp [actS]
theorem rdo_ok12 (S : RBldS F w p code st) (hF : ∀ r, w.heap.size ≤ r → F r) (hW : Wf (code, st)) (hst : st.length ≤ 32) (hask : asksB 12 st = true) (hlen : code.length < 499) :
    Calls Try.prog 22 #[.pointer (some ⟨p, 0, none⟩), .int .i64 12] w (RDoPost F w p 0 (actS 12 (code.length : Int) (laidS 12 code, st))) := by
  obtain ⟨vc, vp, ps, B, hm⟩ := S
  have hpl : ps.length = st.length := by have := congrArg List.length hm; simpa using this
  have hW2 := hW.parts
  dsimp only at hW2
  have hrev : asksB 12 (ps.map (·.1)).reverse = true := by rw [hm, List.reverse_reverse, asks_nz]; exact hask
  obtain ⟨q, r, rfl, hq⟩ := fits1 (k := 2) hask
  obtain ⟨ps1, g1, rfl, hm1⟩ := map_snocR hm
  have hw0 := hW2 q (by simp)
  rw [nz_not3 (q := q) (by omega)] at B hpl hrev
  obtain ⟨k0, a0, s0⟩ := q
  dsimp only at hq hw0
  subst hq
  refine (rdo_12 ps1 2 a0 s0 g1 B hF hlen (by (try simp at hpl); (try simp); (try simp at hst); omega) hrev hw0.2.2.2.1).mono fun e w' ⟨he, ⟨vc', vp', ps', hb, hp⟩, hk⟩ => ⟨he, ⟨vc', vp', ps', ?_, ?_⟩, hk⟩
  · simpa [actS, laidS, laysOf, closeG, setA_length] using hb
  · rw [hp, hm1]; simp [actS]
theorem rdo_ok13 (S : RBldS F w p code st) (hF : ∀ r, w.heap.size ≤ r → F r) (hW : Wf (code, st)) (hst : st.length ≤ 32) (hask : asksB 13 st = true) (hlen : code.length < 499) :
    Calls Try.prog 22 #[.pointer (some ⟨p, 0, none⟩), .int .i64 13] w (RDoPost F w p 0 (actS 13 (code.length : Int) (laidS 13 code, st))) := by
  obtain ⟨vc, vp, ps, B, hm⟩ := S
  have hpl : ps.length = st.length := by have := congrArg List.length hm; simpa using this
  have hW2 := hW.parts
  dsimp only at hW2
  have hrev : asksB 13 (ps.map (·.1)).reverse = true := by rw [hm, List.reverse_reverse, asks_nz]; exact hask
  have hh : hasLoop st = true := hask
  obtain ⟨s1, q, s2, rfl, hq, h1, hadd⟩ := has_split st hh
  rw [List.map_append, List.map_cons, List.reverse_append, List.reverse_cons, List.append_assoc] at hm
  obtain ⟨l1, l2', rfl, hl1, hl2⟩ := List.map_eq_append_iff.1 hm
  obtain ⟨x, l2, rfl, hx, hl3⟩ : ∃ x l2, l2' = x :: l2 ∧ x.1 = nz q ∧ l2.map (·.1) = (s1.map nz).reverse := by
    cases l2' with
    | nil => simp at hl2
    | cons x l2 =>
      simp at hl2
      exact ⟨x, l2, rfl, hl2.1, by simpa using hl2.2⟩
  obtain ⟨x1, gv⟩ := x
  dsimp only at hx
  subst hx
  have hnq : nz q = q := nz_not3 (by omega)
  rw [hnq] at B hpl hrev
  have h2 : ∀ y ∈ l2, y.1.kind ≠ 2 := fun y hy => by
    have : y.1 ∈ l2.map (·.1) := List.mem_map.2 ⟨y, hy, rfl⟩
    rw [hl3] at this
    obtain ⟨z, hz, e⟩ := List.mem_map.1 (List.mem_reverse.1 this)
    rw [← e, nz_kind]
    exact h1 z hz
  have hgl := (hW2 q (by simp)).2.2.2.2
  obtain ⟨qk, qa, qs⟩ := q
  dsimp only at hq hgl
  subst hq
  refine (rdo_13 l1 l2 qa qs gv h2 (by omega) B hF hlen (by omega) hrev).mono fun e w' ⟨he, ⟨vc', vp', ps', hb, hp⟩, hk⟩ => ⟨he, ?_, hk⟩
  have e1 : actS 13 (code.length : Int) (laidS 13 code, s1 ++ (⟨2, qa, qs⟩ : Prt) :: s2) = (code ++ [(9, 0, 0)], s1 ++ ⟨2, qa, qs ++ [(code.length : Int)]⟩ :: s2) := by
    show (laidS 13 code, addGap _ _) = _
    rw [hadd]
    rfl
  rw [e1]
  refine ⟨_, _, _, hb, ?_⟩
  rw [hp]
  dsimp only
  rw [List.map_append, List.map_cons, List.reverse_append, List.reverse_cons, List.append_assoc, ← hl1, ← hl3, nz_not3 (q := ⟨2, qa, qs ++ [(code.length : Int)]⟩) (show (2 : Int) ≠ 3 by decide)]
  rfl
theorem rdo_ok14 (S : RBldS F w p code st) (hF : ∀ r, w.heap.size ≤ r → F r) (hW : Wf (code, st)) (hst : st.length < 32) (hask : asksB 14 st = true) :
    Calls Try.prog 22 #[.pointer (some ⟨p, 0, none⟩), .int .i64 14] w (RDoPost F w p 0 (actS 14 (code.length : Int) (laidS 14 code, st))) := by
  obtain ⟨vc, vp, ps, B, hm⟩ := S
  have hpl : ps.length = st.length := by have := congrArg List.length hm; simpa using this
  have hlen : code.length ≤ 499 := hW.len
  have hW2 := hW.parts
  dsimp only at hW2
  have hrev : asksB 14 (ps.map (·.1)).reverse = true := by rw [hm, List.reverse_reverse, asks_nz]; exact hask
  refine (rdo_14 ps  B hF hlen (by (try simp at hpl); (try simp); (try simp at hst); omega) hrev ).mono fun e w' ⟨he, ⟨vc', vp', ps', hb, hp⟩, hk⟩ => ⟨he, ⟨vc', vp', ps', ?_, ?_⟩, hk⟩
  · simpa [actS, laidS, laysOf, closeG, setA_length] using hb
  · rw [hp, hm]; simp [actS, nz]
theorem rdo_ok15 (S : RBldS F w p code st) (hF : ∀ r, w.heap.size ≤ r → F r) (hW : Wf (code, st)) (hst : st.length < 32) (hask : asksB 15 st = true) (hlen : code.length < 499) :
    Calls Try.prog 22 #[.pointer (some ⟨p, 0, none⟩), .int .i64 15] w (RDoPost F w p 0 (actS 15 (code.length : Int) (laidS 15 code, st))) := by
  obtain ⟨vc, vp, ps, B, hm⟩ := S
  have hpl : ps.length = st.length := by have := congrArg List.length hm; simpa using this
  have hW2 := hW.parts
  dsimp only at hW2
  have hrev : asksB 15 (ps.map (·.1)).reverse = true := by rw [hm, List.reverse_reverse, asks_nz]; exact hask
  refine (rdo_15 ps  B hF hlen (by (try simp at hpl); (try simp); (try simp at hst); omega) hrev ).mono fun e w' ⟨he, ⟨vc', vp', ps', hb, hp⟩, hk⟩ => ⟨he, ⟨vc', vp', ps', ?_, ?_⟩, hk⟩
  · simpa [actS, laidS, laysOf, closeG, setA_length] using hb
  · rw [hp, hm]; simp [actS, nz]
theorem rdo_ok16 (S : RBldS F w p code st) (hF : ∀ r, w.heap.size ≤ r → F r) (hW : Wf (code, st)) (hst : st.length ≤ 32) (hask : asksB 16 st = true) (hlen : code.length < 499) :
    Calls Try.prog 22 #[.pointer (some ⟨p, 0, none⟩), .int .i64 16] w (RDoPost F w p 0 (actS 16 (code.length : Int) (laidS 16 code, st))) := by
  obtain ⟨vc, vp, ps, B, hm⟩ := S
  have hpl : ps.length = st.length := by have := congrArg List.length hm; simpa using this
  have hW2 := hW.parts
  dsimp only at hW2
  have hrev : asksB 16 (ps.map (·.1)).reverse = true := by rw [hm, List.reverse_reverse, asks_nz]; exact hask
  obtain ⟨q, q2, r, rfl, hq, hq2⟩ := fits2 (k := 4) (k2 := 3) hask
  obtain ⟨ps1, g1, rfl, hm1⟩ := map_snocR hm
  obtain ⟨ps2, g2, rfl, hm2⟩ := map_snocR hm1
  have hw0 := hW2 q (by simp)
  rw [nz_not3 (q := q) (by omega)] at B hpl hrev
  have hw1 := hW2 q2 (by simp)
  rw [nz_3 hq2] at B hpl hrev
  obtain ⟨k0, a0, s0⟩ := q
  dsimp only at hq hw0
  subst hq
  refine (rdo_16 ps2 4 a0 s0 g1 3 0 q2.gaps g2 B hF hlen (by (try simp at hpl); (try simp); (try simp at hst); omega) hrev (by have := hw1.2.2.2.2; (try dsimp only at this); omega) ⟨hw0.1, hw0.2.2.1 (.inr rfl)⟩).mono fun e w' ⟨he, ⟨vc', vp', ps', hb, hp⟩, hk⟩ => ⟨he, ⟨vc', vp', ps', ?_, ?_⟩, hk⟩
  · simpa [actS, laidS, laysOf, closeG, setA_length] using hb
  · rw [hp, hm2]; simp [actS, nz, hq2]
theorem rdo_ok17 (S : RBldS F w p code st) (hF : ∀ r, w.heap.size ≤ r → F r) (hW : Wf (code, st)) (hst : st.length ≤ 32) (hask : asksB 17 st = true) (hlen : code.length < 499) :
    Calls Try.prog 22 #[.pointer (some ⟨p, 0, none⟩), .int .i64 17] w (RDoPost F w p 0 (actS 17 (code.length : Int) (laidS 17 code, st))) := by
  obtain ⟨vc, vp, ps, B, hm⟩ := S
  have hpl : ps.length = st.length := by have := congrArg List.length hm; simpa using this
  have hW2 := hW.parts
  dsimp only at hW2
  have hrev : asksB 17 (ps.map (·.1)).reverse = true := by rw [hm, List.reverse_reverse, asks_nz]; exact hask
  obtain ⟨q, r, rfl, hq⟩ := fits1 (k := 3) hask
  obtain ⟨ps1, g1, rfl, hm1⟩ := map_snocR hm
  have hw0 := hW2 q (by simp)
  rw [nz_3 hq] at B hpl hrev
  refine (rdo_17 ps1 3 0 q.gaps g1 B hF hlen (by (try simp at hpl); (try simp); (try simp at hst); omega) hrev hw0.2.2.2.1).mono fun e w' ⟨he, ⟨vc', vp', ps', hb, hp⟩, hk⟩ => ⟨he, ⟨vc', vp', ps', ?_, ?_⟩, hk⟩
  · simpa [actS, laidS, laysOf, closeG, setA_length] using hb
  · rw [hp, hm1]; simp [actS]
theorem rdo_all (S : RBldS F w p code st) (hF : ∀ r, w.heap.size ≤ r → F r) (hW : Wf (code, st)) (hst : st.length ≤ 32) (n : Int) :
    Calls Try.prog 22 #[.pointer (some ⟨p, 0, none⟩), .int .i64 n] w (RDoPost F w p (ansS n (code, st)) (doS n (code, st))) := by
  have same : ∀ (r : Int), r ≠ 0 → ansS n (code, st) = r → (Calls Try.prog 22 #[.pointer (some ⟨p, 0, none⟩), .int .i64 n] w fun e w' => e = .returned (.int .i64 r) ∧ w = w') →
      Calls Try.prog 22 #[.pointer (some ⟨p, 0, none⟩), .int .i64 n] w (RDoPost F w p (ansS n (code, st)) (doS n (code, st))) := fun r hr ha h => h.mono fun e w' ⟨he, hk⟩ => by
    subst hk
    refine ⟨by rw [ha]; exact he, ?_, Kept.refl _ _⟩
    rw [doS, if_neg (by rw [ha]; exact hr)]
    exact S
  by_cases hn : 1 ≤ n ∧ n ≤ 17
  · obtain ⟨m, rfl⟩ := Int.eq_ofNat_of_zero_le (show 0 ≤ n by omega)
    have h1 : 1 ≤ m := by omega
    have h2 : m ≤ 17 := by omega
    have e0 := ans_asks m h1 h2 code st
    obtain ⟨vc, vp, ps, B, hm⟩ := S
    have hpl : ps.length = st.length := by have := congrArg List.length hm; simpa using this
    have hrev : asksB m (ps.map (·.1)).reverse = asksB m st := by rw [hm, List.reverse_reverse, asks_nz]
    cases hask : asksB m st with
    | false => exact same (-22) (by decide) (by rw [e0, if_pos hask]) (rdo_ctrl B (by omega) m h1 h2 (by rw [hrev, hask]))
    | true =>
      rw [if_neg (by rw [hask]; decide)] at e0
      by_cases hc1 : laysOf m ≠ 0 ∧ 499 ≤ code.length
      · exact same (-8) (by decide) (by rw [e0, if_pos (.inl hc1)]) (rdo_room1 B (by omega) m h1 h2 (by rw [hrev, hask]) hc1.1 hc1.2)
      · by_cases hc2 : opensB m = true ∧ 32 ≤ st.length
        · by_cases hl : laysOf m = 0
          · exact same (-8) (by decide) (by rw [e0, if_pos (.inr hc2)]) (rdo_room2 B (by omega) m h1 h2 (by rw [hrev, hask]) hl hc2.1 (by omega))
          · exact same (-8) (by decide) (by rw [e0, if_pos (.inr hc2)]) (rdo_room3 B (by omega) m h1 h2 (by rw [hrev, hask]) hl (Nat.lt_of_not_le fun h' => hc1 ⟨hl, h'⟩) hc2.1 (by omega))
        · have ha : ansS (m : Int) (code, st) = 0 := by rw [e0, if_neg (by intro h; rcases h with h | h; exact hc1 h; exact hc2 h)]
          have S : RBldS F w p code st := ⟨vc, vp, ps, B, hm⟩
          have hl : laysOf m ≠ 0 → code.length < 499 := fun h => Nat.lt_of_not_le fun h' => hc1 ⟨h, h'⟩
          have ho : opensB m = true → st.length < 32 := fun h => Nat.lt_of_not_le fun h' => hc2 ⟨h, h'⟩
          rw [ha, doS, if_pos ha, show ((m : Int)).toNat = m from rfl]
          dsimp only
          clear same e0 hc1 hc2 ha hrev B hm hn
          match m, h1, h2 with
          | 1, _, _ => exact rdo_ok1 S hF hW (ho rfl) hask (hl (by decide))
          | 2, _, _ => exact rdo_ok2 S hF hW hst hask (hl (by decide))
          | 3, _, _ => exact rdo_ok3 S hF hW hst hask
          | 4, _, _ => exact rdo_ok4 S hF hW (ho rfl) hask
          | 5, _, _ => exact rdo_ok5 S hF hW (ho rfl) hask (hl (by decide))
          | 6, _, _ => exact rdo_ok6 S hF hW hst hask (hl (by decide))
          | 7, _, _ => exact rdo_ok7 S hF hW hst hask (hl (by decide))
          | 8, _, _ => exact rdo_ok8 S hF hW hst hask (hl (by decide))
          | 9, _, _ => exact rdo_ok9 S hF hW (ho rfl) hask (hl (by decide))
          | 10, _, _ => exact rdo_ok10 S hF hW (ho rfl) hask (hl (by decide))
          | 11, _, _ => exact rdo_ok11 S hF hW hst hask (hl (by decide))
          | 12, _, _ => exact rdo_ok12 S hF hW hst hask (hl (by decide))
          | 13, _, _ => exact rdo_ok13 S hF hW hst hask (hl (by decide))
          | 14, _, _ => exact rdo_ok14 S hF hW (ho rfl) hask
          | 15, _, _ => exact rdo_ok15 S hF hW (ho rfl) hask (hl (by decide))
          | 16, _, _ => exact rdo_ok16 S hF hW hst hask (hl (by decide))
          | 17, _, _ => exact rdo_ok17 S hF hW hst hask (hl (by decide))
          | m + 18, _, h => exact absurd h (by omega)
  · exact same 1 (by decide) (by rw [ansS, if_neg hn]) (rdo_no n (by omega))
end
end Go.Proofs.Ytdpoobkfhmmbjaa
