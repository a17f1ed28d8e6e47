/- How many loops are open at each instruction: an order that every word of a flow.Builder keeps. Plain facts. -/
import Derived.Test.YtdpoobkfhmmbjaaDoAll
import Derived.Test.YtdpoobkfhmmbjaaLoopsP
namespace Go.Proofs.Ytdpoobkfhmmbjaa
def nl : List Prt → Int
  | [] => 0
  | q :: r => (if q.kind = 2 then 1 else 0) + nl r
theorem nl_le (st : List Prt) : 0 ≤ nl st ∧ nl st ≤ st.length := by
  induction st with
  | nil => simp [nl]
  | cons q r ih => simp only [nl, List.length_cons]; split <;> omega
def places (q : Prt) : List Int := if q.kind = 0 ∨ q.kind = 4 then [q.at_] else if q.kind = 2 ∨ q.kind = 3 then q.gaps else []
def opens (st : List Prt) : List Int := st.flatMap places
def okI (x : I3) : Prop := (x.1 = 1 ∨ (3 ≤ x.1 ∧ x.1 ≤ 11)) ∧ (x.1 = 1 ∨ x.2.2 = 0) ∧ (goesB x.1 = true ∨ x.2.1 = 0)
/-- the place g is one from which a jump leads to where v loops are open -/
def GoTo (d : Nat → Int) (c : List I3) (g v : Int) : Prop := 0 ≤ g ∧ ∃ x, c[g.toNat]? = some x ∧ goesB x.1 = true ∧ d g.toNat + moreB x.1 = v
def QOk (d : Nat → Int) (c : List I3) (v : Int) (q : Prt) : Prop :=
  (∀ g ∈ places q, GoTo d c g v) ∧ (q.kind = 1 → 0 ≤ q.at_ ∧ q.at_ ≤ c.length ∧ d q.at_.toNat = v) ∧ (q.kind = 2 → 0 ≤ q.at_ ∧ q.at_ ≤ c.length ∧ d q.at_.toNat = v + 1)
def POk (d : Nat → Int) (c : List I3) : List Prt → Prop
  | [] => True
  | q :: r => QOk d c (nl r) q ∧ POk d c r
structure GoodD (d : Nat → Int) (c : List I3) (st : List Prt) (E : List Int) (v : Int) : Prop where
  zero : d 0 = 0
  last : d c.length = v
  pos : ∀ i, i ≤ c.length → 0 ≤ d i ∧ d i ≤ 1000
  ok : ∀ x ∈ c, okI x
  onn : ∀ (i : Nat) (x : I3), c[i]? = some x → onB x.1 = true → d (i + 1) = d i + moreA x.1
  goo : ∀ (i : Nat) (x : I3), c[i]? = some x → goesB x.1 = true → (i : Int) ∈ E ∨ (i : Int) ∈ opens st ∨ (0 ≤ x.2.1 ∧ x.2.1 ≤ c.length ∧ d x.2.1.toNat = d i + moreB x.1)
  parts : POk d c st
section
variable {d d' : Nat → Int} {c c' : List I3} {st r : List Prt} {E E' : List Int} {v v' : Int} {q : Prt} {g : Int}
/-- the same operations, or more of them; the same depths -/
def Ext (d d' : Nat → Int) (c c' : List I3) : Prop := c.length ≤ c'.length ∧ (∀ i, i ≤ c.length → d' i = d i) ∧ ∀ (i : Nat) (x : I3), c[i]? = some x → ∃ y, c'[i]? = some y ∧ y.1 = x.1
theorem GoTo.ext (h : GoTo d c g v) (e : Ext d d' c c') : GoTo d' c' g v := by
  obtain ⟨h0, x, hx, h1, h2⟩ := h
  obtain ⟨y, hy, hxy⟩ := e.2.2 _ _ hx
  have := (List.getElem?_eq_some_iff.1 hx).1
  exact ⟨h0, y, hy, by rw [hxy]; exact h1, by rw [hxy, e.2.1 _ (by omega)]; exact h2⟩
theorem QOk.ext (h : QOk d c v q) (e : Ext d d' c c') : QOk d' c' v q := by
  have hl := e.1
  refine ⟨fun g hg => (h.1 g hg).ext e, fun hk => ?_, fun hk => ?_⟩
  · obtain ⟨a, b, g⟩ := h.2.1 hk
    exact ⟨a, by omega, by rw [e.2.1 _ (by omega)]; exact g⟩
  · obtain ⟨a, b, g⟩ := h.2.2 hk
    exact ⟨a, by omega, by rw [e.2.1 _ (by omega)]; exact g⟩
theorem POk.ext (h : POk d c st) (e : Ext d d' c c') : POk d' c' st := by
  induction st with
  | nil => trivial
  | cons q r ih => exact ⟨h.1.ext e, ih h.2⟩
theorem GoodD.mono (h : GoodD d c st E v) (hE : ∀ g ∈ E, g ∈ E') : GoodD d c st E' v :=
  ⟨h.zero, h.last, h.pos, h.ok, h.onn, fun i x hi hg => by
    rcases h.goo i x hi hg with h1 | h1
    · exact .inl (hE _ h1)
    · exact .inr h1, h.parts⟩
theorem ext_lay (hd : ∀ i, i ≤ c.length → d' i = d i) (x : I3) : Ext d d' c (c ++ [x]) :=
  ⟨by simp, hd, fun i y hy => ⟨y, by rw [List.getElem?_append_left (List.getElem?_eq_some_iff.1 hy).1]; exact hy, rfl⟩⟩
theorem GoodD.lay (h : GoodD d c st E v) (x : I3) (hx : okI x) (v' : Int) (hv : 0 ≤ v' ∧ v' ≤ 1000) (ho : onB x.1 = true → v' = v + moreA x.1) :
    ∃ d', (∀ i, i ≤ c.length → d' i = d i) ∧ GoodD d' (c ++ [x]) st ((c.length : Int) :: E) v' := by
  obtain ⟨d', hd, hn⟩ : ∃ d' : Nat → Int, (∀ i, i ≤ c.length → d' i = d i) ∧ d' (c.length + 1) = v' :=
    ⟨fun i => if i = c.length + 1 then v' else d i, fun i hi => if_neg (by omega), if_pos rfl⟩
  refine ⟨d', hd, by rw [hd 0 (by omega)]; exact h.zero, by simpa using hn, fun i hi => ?_, fun y hy => ?_, fun i y hy hon => ?_, fun i y hy hgo => ?_, h.parts.ext (ext_lay hd x)⟩
  · by_cases h1 : i = c.length + 1
    · subst h1
      rw [hn]; exact hv
    · simp at hi
      rw [hd i (by omega)]
      exact h.pos i (by omega)
  · rcases List.mem_append.1 hy with hy | hy
    · exact h.ok y hy
    · simp at hy; subst hy; exact hx
  · by_cases h1 : i < c.length
    · rw [List.getElem?_append_left h1] at hy
      rw [hd (i + 1) (by omega), hd i (by omega)]
      exact h.onn i y hy hon
    · rw [List.getElem?_append_right (by omega)] at hy
      cases hq : i - c.length with
      | zero =>
        rw [hq] at hy
        simp at hy
        subst hy
        obtain rfl : i = c.length := by omega
        rw [hd c.length (by omega), h.last, hn]
        exact ho hon
      | succ j => rw [hq] at hy; simp at hy
  · by_cases h1 : i < c.length
    · rw [List.getElem?_append_left h1] at hy
      rcases h.goo i y hy hgo with h2 | h2 | ⟨h2, h3, h4⟩
      · exact .inl (by simp [h2])
      · exact .inr (.inl h2)
      · exact .inr (.inr ⟨h2, by simp; omega, by rw [hd _ (by omega), hd i (by omega)]; exact h4⟩)
    · rw [List.getElem?_append_right (by omega)] at hy
      cases hq : i - c.length with
      | zero =>
        obtain rfl : i = c.length := by omega
        exact .inl (by simp)
      | succ j => rw [hq] at hy; simp at hy
theorem setA_get (c : List I3) (g : Nat) (t : Int) (i : Nat) : (setA c g t)[i]? = if i = g then (c[i]?).map (fun x => (x.1, t, x.2.2)) else c[i]? := by
  unfold setA
  rw [List.getElem?_modify]
  by_cases h : g = i
  · subst h; simp
  · rw [if_neg (fun e => h e.symm)]
    cases c[i]? <;> simp [h]
theorem ext_set (c : List I3) (g : Nat) (t : Int) : Ext d d c (setA c g t) := by
  refine ⟨by rw [setA_length]; exact Nat.le_refl _, fun _ _ => rfl, fun i x hx => ?_⟩
  rw [setA_get, hx]
  split
  · exact ⟨_, rfl, rfl⟩
  · exact ⟨_, rfl, rfl⟩
theorem GoodD.setA (h : GoodD d c st (g :: E) v) (t : Int) (hg : GoTo d c g (d t.toNat)) (ht : 0 ≤ t ∧ t ≤ c.length) : GoodD d (setA c g.toNat t) st E v := by
  obtain ⟨g0, x, hx, h1, h2⟩ := hg
  refine ⟨h.zero, by rw [setA_length]; exact h.last, by rw [setA_length]; exact h.pos, fun y hy => ?_, fun i y hy hon => ?_, fun i y hy hgo => ?_, h.parts.ext (ext_set c g.toNat t)⟩
  · obtain ⟨i, hi⟩ := List.getElem?_of_mem hy
    rw [setA_get] at hi
    split at hi
    · rename_i h3
      subst h3
      rw [hx] at hi
      simp at hi
      subst hi
      have := h.ok x (List.mem_of_getElem? hx)
      exact ⟨this.1, this.2.1, .inl h1⟩
    · exact h.ok y (List.mem_of_getElem? hi)
  · rw [setA_get] at hy
    split at hy
    · rename_i h3
      subst h3
      rw [hx] at hy
      simp at hy
      subst hy
      exact h.onn _ x hx hon
    · exact h.onn i y hy hon
  · rw [setA_get] at hy
    rw [setA_length]
    split at hy
    · rename_i h3
      subst h3
      rw [hx] at hy
      simp at hy
      subst hy
      exact .inr (.inr ⟨ht.1, ht.2, h2.symm⟩)
    · rename_i h3
      rcases h.goo i y hy hgo with h4 | h4
      · rcases List.mem_cons.1 h4 with h5 | h5
        · exact absurd (by omega) h3
        · exact .inl h5
      · exact .inr h4
theorem GoodD.drop (h : GoodD d c st (g :: E) v) (hg : 0 ≤ g) (hx : ∀ x, c[g.toNat]? = some x → goesB x.1 = false) : GoodD d c st E v :=
  ⟨h.zero, h.last, h.pos, h.ok, h.onn, fun i x hi hgo => by
    rcases h.goo i x hi hgo with h1 | h1
    · rcases List.mem_cons.1 h1 with h2 | h2
      · have := hx x (by rw [show g.toNat = i by omega]; exact hi)
        rw [this] at hgo
        cases hgo
      · exact .inl h2
    · exact .inr h1, h.parts⟩
theorem GoodD.pop (h : GoodD d c (q :: r) E v) : GoodD d c r (places q ++ E) v ∧ QOk d c (nl r) q :=
  ⟨⟨h.zero, h.last, h.pos, h.ok, h.onn, fun i x hi hgo => by
    rcases h.goo i x hi hgo with h1 | h1 | h1
    · exact .inl (by simp [h1])
    · rw [opens, List.flatMap_cons] at h1
      rcases List.mem_append.1 h1 with h1 | h1
      · exact .inl (by simp [h1])
      · exact .inr (.inl h1)
    · exact .inr (.inr h1), h.parts.2⟩, h.parts.1⟩
theorem GoodD.push (h : GoodD d c r (places q ++ E) v) (hq : QOk d c (nl r) q) : GoodD d c (q :: r) E v :=
  ⟨h.zero, h.last, h.pos, h.ok, h.onn, fun i x hi hgo => by
    rcases h.goo i x hi hgo with h1 | h1 | h1
    · rcases List.mem_append.1 h1 with h1 | h1
      · exact .inr (.inl (by rw [opens, List.flatMap_cons]; simp [h1]))
      · exact .inl h1
    · exact .inr (.inl (by rw [opens, List.flatMap_cons]; exact List.mem_append.2 (.inr h1)))
    · exact .inr (.inr h1), ⟨hq, h.parts⟩⟩
theorem GoodD.close (gs : List Int) : ∀ {c : List I3}, GoodD d c st (gs ++ E) v → (∀ g ∈ gs, GoTo d c g v) → GoodD d (closeG c gs) st E v := by
  induction gs with
  | nil => exact fun h _ => h
  | cons g gs ih =>
    intro c h hg
    have hl := h.last
    have h1 : GoodD d (Go.Proofs.Ytdpoobkfhmmbjaa.setA c g.toNat c.length) st (gs ++ E) v := GoodD.setA (g := g) h c.length (by rw [Int.toNat_natCast, hl]; exact hg g (by simp)) ⟨by omega, by omega⟩
    exact ih h1 (fun x hx => (hg x (by simp [hx])).ext (ext_set c g.toNat c.length))
end
theorem laid_get (c : List I3) (x : I3) : (c ++ [x])[c.length]? = some x := by simp
theorem goTo_laid {d : Nat → Int} {c : List I3} {x : I3} {v : Int} (hg : goesB x.1 = true) (h : d c.length + moreB x.1 = v) : GoTo d (c ++ [x]) (c.length : Int) v :=
  ⟨by omega, x, by rw [Int.toNat_natCast]; exact laid_get c x, hg, by rw [Int.toNat_natCast]; exact h⟩
theorem GoTo.len {d : Nat → Int} {c c' : List I3} {g v : Int} (h : GoTo d c g v) (hl : d c'.length = v) : GoTo d c g (d ((c'.length : Int)).toNat) := by
  rw [Int.toNat_natCast, hl]; exact h
theorem nl0 {q : Prt} {r : List Prt} (h : q.kind ≠ 2) : nl (q :: r) = nl r := by
  show (if q.kind = 2 then 1 else 0) + nl r = _
  rw [if_neg h]; omega
theorem nl2 {q : Prt} {r : List Prt} (h : q.kind = 2) : nl (q :: r) = nl r + 1 := by
  show (if q.kind = 2 then 1 else 0) + nl r = _
  rw [if_pos h]; omega
theorem ok_op (op : Int) (h : 3 ≤ op ∧ op ≤ 11) : okI (op, 0, 0) := ⟨.inr h, .inr rfl, .inr rfl⟩
theorem hasLoop_nl (st : List Prt) (h : hasLoop st = true) : 1 ≤ nl st := by
  induction st with
  | nil => simp [hasLoop] at h
  | cons q r ih =>
    unfold nl
    have := (nl_le r).1
    by_cases hq : q.kind = 2
    · rw [if_pos hq]; omega
    · rw [if_neg hq]
      have := ih (by simpa [hasLoop, hq] using h)
      omega
theorem nl_addGap (n : Int) (st : List Prt) : nl (addGap n st) = nl st := by
  induction st with
  | nil => rfl
  | cons q r ih =>
    unfold addGap
    split
    · rfl
    · simp only [nl, ih]
theorem opens_addGap (n : Int) (st : List Prt) (h : hasLoop st = true) : n ∈ opens (addGap n st) ∧ ∀ g ∈ opens st, g ∈ opens (addGap n st) := by
  induction st with
  | nil => simp [hasLoop] at h
  | cons q r ih =>
    unfold addGap
    by_cases hq : q.kind = 2
    · rw [if_pos hq]
      simp only [opens, List.flatMap_cons, places, hq]
      refine ⟨by simp, fun g hg => ?_⟩
      simp at hg ⊢
      rcases hg with hg | hg
      · exact .inl hg
      · exact .inr (.inr hg)
    · rw [if_neg hq]
      obtain ⟨a, b⟩ := ih (by simpa [hasLoop, hq] using h)
      simp only [opens, List.flatMap_cons] at a b ⊢
      refine ⟨List.mem_append.2 (.inr a), fun g hg => ?_⟩
      rcases List.mem_append.1 hg with hg | hg
      · exact List.mem_append.2 (.inl hg)
      · exact List.mem_append.2 (.inr (b g hg))
theorem pok_addGap {d : Nat → Int} {c : List I3} (n : Int) (st : List Prt) (h : hasLoop st = true) (hP : POk d c st) (hn : GoTo d c n (nl st - 1)) : POk d c (addGap n st) := by
  induction st with
  | nil => trivial
  | cons q r ih =>
    unfold addGap
    by_cases hq : q.kind = 2
    · rw [if_pos hq]
      refine ⟨⟨fun g hg => ?_, hP.1.2.1, hP.1.2.2⟩, hP.2⟩
      have e : nl (q :: r) - 1 = nl r := by rw [nl2 hq]; omega
      rw [e] at hn
      simp only [places, hq] at hg
      simp at hg
      rcases hg with hg | rfl
      · exact hP.1.1 g (by simp only [places, hq]; simpa using hg)
      · exact hn
    · rw [if_neg hq]
      rw [nl0 hq] at hn
      exact ⟨by rw [nl_addGap]; exact hP.1, ih (by simpa [hasLoop, hq] using h) hP.2 hn⟩
theorem GoodD.leave {d : Nat → Int} {c : List I3} {st : List Prt} {E : List Int} {v n : Int} (h : GoodD d c st (n :: E) v) (hl : hasLoop st = true) (hn : GoTo d c n (nl st - 1)) : GoodD d c (addGap n st) E v :=
  ⟨h.zero, h.last, h.pos, h.ok, h.onn, fun i x hi hgo => by
    obtain ⟨a, b⟩ := opens_addGap n st hl
    rcases h.goo i x hi hgo with h1 | h1 | h1
    · rcases List.mem_cons.1 h1 with h2 | h2
      · exact .inr (.inl (by rw [h2]; exact a))
      · exact .inl h2
    · exact .inr (.inl (b _ h1))
    · exact .inr (.inr h1), pok_addGap n st hl h.parts hn⟩
def InvS (s : St) : Prop := ∃ d, GoodD d s.1 s.2 [] (nl s.2)
theorem invS_nil : InvS ([], []) := ⟨fun _ => 0, rfl, rfl, fun i _ => by omega, by simp, by simp, by simp, trivial⟩
theorem inv_put (s : St) (h : InvS s) (x : I3) (hx : okI x) (_hon : onB x.1 = true) (hm : moreA x.1 = 0) (hg : goesB x.1 = false) : InvS (s.1 ++ [x], s.2) := by
  obtain ⟨d, h⟩ := h
  have hp := h.pos s.1.length (Nat.le_refl _)
  have hlast := h.last
  obtain ⟨d', hd, h'⟩ := h.lay x hx (nl s.2) (by omega) (fun _ => by rw [hm]; omega)
  exact ⟨d', h'.drop (by omega) (fun y hy => by rw [Int.toNat_natCast, laid_get] at hy; cases hy; exact hg)⟩
theorem inv_do (n : Int) (s : St) (h : InvS s) (h32 : s.2.length ≤ 32) : InvS (doS n s) := by
  obtain ⟨c, st⟩ := s
  unfold doS
  split
  · rename_i hans
    obtain ⟨m, rfl, h1, h2, hf, hl, h13, _⟩ := ans_ok hans
    rw [show ((m : Int)).toNat = m from rfl]
    obtain ⟨d, h⟩ := h
    dsimp only at hf h13 h h32 ⊢
    have hnl := nl_le st
    have hv1 : 0 ≤ nl st ∧ nl st ≤ 32 := by omega
    match m, h1, h2 with
    | 1, _, _ =>
      obtain ⟨d', hd, h'⟩ := h.lay (4, 0, 0) (ok_op _ (by decide)) (nl st) (by omega) (fun _ => by simp [moreA])
      have hdn : d' c.length = nl st := (hd _ (Nat.le_refl _)).trans h.last
      have hlast := h'.last
      have hlen : (c ++ [((4 : Int), (0 : Int), (0 : Int))]).length = c.length + 1 := by simp
      refine ⟨d', ?_⟩
      show GoodD d' (c ++ [(4, 0, 0)]) (⟨0, c.length, []⟩ :: st) [] (nl (⟨0, c.length, []⟩ :: st))
      rw [nl0 (by simp)]
      refine GoodD.push (q := ⟨0, c.length, []⟩) h' ⟨fun g hg => ?_, by simp, by simp⟩
      obtain rfl : g = c.length := by simpa [places] using hg
      exact goTo_laid rfl (by rw [hdn]; simp [moreB])
    | 2, _, _ =>
      obtain ⟨q, r, rfl, hq⟩ := fits1 hf
      have e1 : nl (q :: r) = nl r := nl0 (by omega)
      rw [e1] at hv1 h
      obtain ⟨d', hd, h'⟩ := h.lay (3, 0, 0) (ok_op _ (by decide)) (nl r) (by omega) (fun h => absurd h (by decide))
      have hdn : d' c.length = nl r := (hd _ (Nat.le_refl _)).trans h.last
      have hlast := h'.last
      have hlen : (c ++ [((3 : Int), (0 : Int), (0 : Int))]).length = c.length + 1 := by simp
      refine ⟨d', ?_⟩
      show GoodD d' (setA (c ++ [(3, 0, 0)]) q.at_.toNat (c ++ [(3, 0, 0)]).length) (⟨0, c.length, []⟩ :: r) [] (nl (⟨0, c.length, []⟩ :: r))
      rw [nl0 (by simp)]
      obtain ⟨h2, hQ⟩ := h'.pop
      have hp : places q = [q.at_] := by simp [places, hq]
      rw [hp] at h2
      have hG := hQ.1 q.at_ (by rw [hp]; simp)
      have h3 := GoodD.setA (g := q.at_) h2 _ (hG.len hlast) ⟨by omega, by omega⟩
      refine GoodD.push (q := ⟨0, c.length, []⟩) h3 ⟨fun g hg => ?_, by simp, by simp⟩
      obtain rfl : g = c.length := by simpa [places] using hg
      exact (goTo_laid rfl (by rw [hdn]; simp [moreB])).ext (ext_set _ _ _)
    | 3, _, _ =>
      obtain ⟨q, r, rfl, hq⟩ := fits1 hf
      have e1 : nl (q :: r) = nl r := nl0 (by omega)
      rw [e1] at h
      refine ⟨d, ?_⟩
      show GoodD d (setA c q.at_.toNat c.length) r [] (nl r)
      obtain ⟨h2, hQ⟩ := h.pop
      have hp : places q = [q.at_] := by simp [places, hq]
      rw [hp] at h2
      have hG := hQ.1 q.at_ (by rw [hp]; simp)
      exact GoodD.setA (g := q.at_) h2 _ (hG.len h.last) ⟨by omega, by omega⟩
    | 4, _, _ =>
      refine ⟨d, ?_⟩
      show GoodD d c (⟨1, c.length, []⟩ :: st) [] (nl (⟨1, c.length, []⟩ :: st))
      rw [nl0 (by simp)]
      refine GoodD.push (q := ⟨1, c.length, []⟩) h ⟨by simp [places], fun _ => ⟨by dsimp only; omega, Int.le_refl _, ?_⟩, by simp⟩
      dsimp only
      rw [Int.toNat_natCast]
      exact h.last
    | 5, _, _ =>
      obtain ⟨q, r, rfl, hq⟩ := fits1 hf
      have e1 : nl (q :: r) = nl r := nl0 (by omega)
      rw [e1] at hv1 h
      obtain ⟨d', hd, h'⟩ := h.lay (4, 0, 0) (ok_op _ (by decide)) (nl r) (by omega) (fun _ => by simp [moreA])
      have hdn : d' c.length = nl r := (hd _ (Nat.le_refl _)).trans h.last
      have hlast := h'.last
      have hlen : (c ++ [((4 : Int), (0 : Int), (0 : Int))]).length = c.length + 1 := by simp
      refine ⟨d', ?_⟩
      show GoodD d' (c ++ [(4, 0, 0)]) (q :: ⟨0, c.length, []⟩ :: r) [] (nl (q :: ⟨0, c.length, []⟩ :: r))
      have e2 : nl ((⟨0, (c.length : Int), []⟩ : Prt) :: r) = nl r := nl0 (by simp)
      rw [nl0 (by omega), e2]
      obtain ⟨h2, hQ⟩ := h'.pop
      refine GoodD.push (GoodD.push (q := ⟨0, c.length, []⟩) (E := places q ++ []) (h2.mono (fun g hg => List.mem_append.2 ((List.mem_append.1 hg).symm.imp (fun h => by simpa [places] using h) (fun h => by simpa using h)))) ⟨fun g hg => ?_, by simp, by simp⟩) (by rw [e2]; exact hQ)
      obtain rfl : g = c.length := by simpa [places] using hg
      exact goTo_laid rfl (by rw [hdn]; simp [moreB])
    | 6, _, _ =>
      obtain ⟨q, q2, r, rfl, hq, hq2⟩ := fits2 hf
      have e2 : nl (q2 :: r) = nl r := nl0 (by omega)
      have e1 : nl (q :: q2 :: r) = nl r := (nl0 (by omega)).trans e2
      rw [e1] at hv1 h
      obtain ⟨d', hd, h'⟩ := h.lay (3, 0, 0) (ok_op _ (by decide)) (nl r) (by omega) (fun h => absurd h (by decide))
      have hdn : d' c.length = nl r := (hd _ (Nat.le_refl _)).trans h.last
      have hlast := h'.last
      have hlen : (c ++ [((3 : Int), (0 : Int), (0 : Int))]).length = c.length + 1 := by simp
      refine ⟨d', ?_⟩
      show GoodD d' (setA (setA (c ++ [(3, 0, 0)]) (c.length : Int).toNat q.at_) q2.at_.toNat (c ++ [(3, 0, 0)]).length) r [] (nl r)
      obtain ⟨h2, hQ⟩ := h'.pop
      have hp : places q = [] := by simp [places, hq]
      rw [hp] at h2
      rw [e2] at hQ
      obtain ⟨a1, a2, a3⟩ := hQ.2.1 hq
      have h3 := GoodD.setA (g := c.length) h2 q.at_ (goTo_laid rfl (by rw [hdn, a3]; simp [moreB])) ⟨a1, a2⟩
      obtain ⟨h4, hQ2⟩ := h3.pop
      have hp2 : places q2 = [q2.at_] := by simp [places, hq2]
      rw [hp2] at h4
      have hG := hQ2.1 q2.at_ (by rw [hp2]; simp)
      have hl3 := h4.last
      have hx := GoodD.setA (g := q2.at_) h4 _ (hG.len hl3) ⟨by omega, by omega⟩
      rw [setA_length] at hx
      exact hx
    | 7, _, _ =>
      obtain ⟨q, r, rfl, hq⟩ := fits1 hf
      have e1 : nl (q :: r) = nl r := nl0 (by omega)
      rw [e1] at hv1 h
      obtain ⟨d', hd, h'⟩ := h.lay (4, 0, 0) (ok_op _ (by decide)) (nl r) (by omega) (fun _ => by simp [moreA])
      have hdn : d' c.length = nl r := (hd _ (Nat.le_refl _)).trans h.last
      have hlast := h'.last
      have hlen : (c ++ [((4 : Int), (0 : Int), (0 : Int))]).length = c.length + 1 := by simp
      refine ⟨d', ?_⟩
      show GoodD d' (setA (c ++ [(4, 0, 0)]) (c.length : Int).toNat q.at_) r [] (nl r)
      obtain ⟨h2, hQ⟩ := h'.pop
      have hp : places q = [] := by simp [places, hq]
      rw [hp] at h2
      obtain ⟨a1, a2, a3⟩ := hQ.2.1 hq
      exact GoodD.setA (g := c.length) h2 q.at_ (goTo_laid rfl (by rw [hdn, a3]; simp [moreB])) ⟨a1, a2⟩
    | 8, _, _ =>
      obtain ⟨q, r, rfl, hq⟩ := fits1 hf
      have e1 : nl (q :: r) = nl r := nl0 (by omega)
      rw [e1] at hv1 h
      obtain ⟨d', hd, h'⟩ := h.lay (3, 0, 0) (ok_op _ (by decide)) (nl r) (by omega) (fun h => absurd h (by decide))
      have hdn : d' c.length = nl r := (hd _ (Nat.le_refl _)).trans h.last
      have hlast := h'.last
      have hlen : (c ++ [((3 : Int), (0 : Int), (0 : Int))]).length = c.length + 1 := by simp
      refine ⟨d', ?_⟩
      show GoodD d' (setA (c ++ [(3, 0, 0)]) (c.length : Int).toNat q.at_) r [] (nl r)
      obtain ⟨h2, hQ⟩ := h'.pop
      have hp : places q = [] := by simp [places, hq]
      rw [hp] at h2
      obtain ⟨a1, a2, a3⟩ := hQ.2.1 hq
      exact GoodD.setA (g := c.length) h2 q.at_ (goTo_laid rfl (by rw [hdn, a3]; simp [moreB])) ⟨a1, a2⟩
    | 9, _, _ =>
      obtain ⟨d', hd, h'⟩ := h.lay (5, 0, 0) (ok_op _ (by decide)) (nl st + 1) (by omega) (fun _ => by simp [moreA])
      have hdn : d' c.length = nl st := (hd _ (Nat.le_refl _)).trans h.last
      have hlast := h'.last
      have hlen : (c ++ [((5 : Int), (0 : Int), (0 : Int))]).length = c.length + 1 := by simp
      refine ⟨d', ?_⟩
      show GoodD d' (c ++ [(5, 0, 0)]) (⟨2, (c.length : Int) + 1, []⟩ :: st) [] (nl (⟨2, (c.length : Int) + 1, []⟩ :: st))
      rw [nl2 rfl]
      have h2 := h'.drop (by omega) (fun y hy => by rw [Int.toNat_natCast, laid_get] at hy; cases hy; rfl)
      refine GoodD.push (q := ⟨2, (c.length : Int) + 1, []⟩) h2 ⟨by simp [places], by simp, fun _ => ⟨by dsimp only; omega, by dsimp only; omega, ?_⟩⟩
      dsimp only
      rw [hlen] at hlast
      rw [show ((c.length : Int) + 1).toNat = c.length + 1 by omega]
      exact hlast
    | 10, _, _ =>
      obtain ⟨d', hd, h'⟩ := h.lay (6, 0, 0) (ok_op _ (by decide)) (nl st + 1) (by omega) (fun _ => by simp [moreA])
      have hdn : d' c.length = nl st := (hd _ (Nat.le_refl _)).trans h.last
      have hlast := h'.last
      have hlen : (c ++ [((6 : Int), (0 : Int), (0 : Int))]).length = c.length + 1 := by simp
      refine ⟨d', ?_⟩
      show GoodD d' (c ++ [(6, 0, 0)]) (⟨2, (c.length : Int) + 1, [(c.length : Int)]⟩ :: st) [] (nl (⟨2, (c.length : Int) + 1, [(c.length : Int)]⟩ :: st))
      rw [nl2 rfl]
      refine GoodD.push (q := ⟨2, (c.length : Int) + 1, [(c.length : Int)]⟩) h' ⟨fun g hg => ?_, by simp, fun _ => ⟨by dsimp only; omega, by dsimp only; omega, ?_⟩⟩
      · obtain rfl : g = c.length := by simpa [places] using hg
        exact goTo_laid rfl (by rw [hdn]; simp [moreB])
      dsimp only
      rw [hlen] at hlast
      rw [show ((c.length : Int) + 1).toNat = c.length + 1 by omega]
      exact hlast
    | 11, _, _ =>
      obtain ⟨q, r, rfl, hq⟩ := fits1 hf
      have e1 : nl (q :: r) = nl r + 1 := nl2 hq
      have hnr := nl_le r
      rw [e1] at hv1 h
      obtain ⟨d', hd, h'⟩ := h.lay (7, 0, 0) (ok_op _ (by decide)) (nl r) (by omega) (fun _ => by simp [moreA]; omega)
      have hdn : d' c.length = nl r + 1 := (hd _ (Nat.le_refl _)).trans h.last
      have hlast := h'.last
      have hlen : (c ++ [((7 : Int), (0 : Int), (0 : Int))]).length = c.length + 1 := by simp
      refine ⟨d', ?_⟩
      show GoodD d' (closeG (setA (c ++ [(7, 0, 0)]) (c.length : Int).toNat q.at_) q.gaps) r [] (nl r)
      obtain ⟨h2, hQ⟩ := h'.pop
      have hp : places q = q.gaps := by simp [places, hq]
      rw [hp] at h2
      obtain ⟨a1, a2, a3⟩ := hQ.2.2 hq
      have h3 := GoodD.setA (g := c.length) (E := q.gaps ++ []) (h2.mono (fun g hg => by simp at hg ⊢; exact hg.symm)) q.at_ (goTo_laid rfl (by rw [hdn, a3]; simp [moreB])) ⟨a1, a2⟩
      exact h3.close q.gaps (fun g hg => (hQ.1 g (by rw [hp]; exact hg)).ext (ext_set _ _ _))
    | 12, _, _ =>
      obtain ⟨q, r, rfl, hq⟩ := fits1 hf
      have e1 : nl (q :: r) = nl r + 1 := nl2 hq
      have hnr := nl_le r
      rw [e1] at hv1 h
      obtain ⟨d', hd, h'⟩ := h.lay (8, 0, 0) (ok_op _ (by decide)) (nl r) (by omega) (fun _ => by simp [moreA]; omega)
      have hdn : d' c.length = nl r + 1 := (hd _ (Nat.le_refl _)).trans h.last
      have hlast := h'.last
      have hlen : (c ++ [((8 : Int), (0 : Int), (0 : Int))]).length = c.length + 1 := by simp
      refine ⟨d', ?_⟩
      show GoodD d' (closeG (setA (c ++ [(8, 0, 0)]) (c.length : Int).toNat q.at_) q.gaps) r [] (nl r)
      obtain ⟨h2, hQ⟩ := h'.pop
      have hp : places q = q.gaps := by simp [places, hq]
      rw [hp] at h2
      obtain ⟨a1, a2, a3⟩ := hQ.2.2 hq
      have h3 := GoodD.setA (g := c.length) (E := q.gaps ++ []) (h2.mono (fun g hg => by simp at hg ⊢; exact hg.symm)) q.at_ (goTo_laid rfl (by rw [hdn, a3]; simp [moreB])) ⟨a1, a2⟩
      exact h3.close q.gaps (fun g hg => (hQ.1 g (by rw [hp]; exact hg)).ext (ext_set _ _ _))
    | 13, _, _ =>
      have hh := h13 rfl
      have hh1 := hasLoop_nl st hh
      obtain ⟨d', hd, h'⟩ := h.lay (9, 0, 0) (ok_op _ (by decide)) (nl st) (by omega) (fun h => absurd h (by decide))
      have hdn : d' c.length = nl st := (hd _ (Nat.le_refl _)).trans h.last
      have hlast := h'.last
      have hlen : (c ++ [((9 : Int), (0 : Int), (0 : Int))]).length = c.length + 1 := by simp
      refine ⟨d', ?_⟩
      show GoodD d' (c ++ [(9, 0, 0)]) (addGap (c.length : Int) st) [] (nl (addGap (c.length : Int) st))
      rw [nl_addGap]
      exact h'.leave hh (goTo_laid rfl (by rw [hdn]; simp [moreB]; omega))
    | 14, _, _ =>
      refine ⟨d, ?_⟩
      show GoodD d c (⟨3, c.length, []⟩ :: st) [] (nl (⟨3, c.length, []⟩ :: st))
      rw [nl0 (by simp)]
      exact GoodD.push (q := ⟨3, c.length, []⟩) h ⟨by simp [places], by simp, by simp⟩
    | 15, _, _ =>
      obtain ⟨d', hd, h'⟩ := h.lay (10, 0, 0) (ok_op _ (by decide)) (nl st) (by omega) (fun _ => by simp [moreA])
      have hdn : d' c.length = nl st := (hd _ (Nat.le_refl _)).trans h.last
      have hlast := h'.last
      have hlen : (c ++ [((10 : Int), (0 : Int), (0 : Int))]).length = c.length + 1 := by simp
      refine ⟨d', ?_⟩
      show GoodD d' (c ++ [(10, 0, 0)]) (⟨4, c.length, []⟩ :: st) [] (nl (⟨4, c.length, []⟩ :: st))
      rw [nl0 (by simp)]
      refine GoodD.push (q := ⟨4, c.length, []⟩) h' ⟨fun g hg => ?_, by simp, by simp⟩
      obtain rfl : g = c.length := by simpa [places] using hg
      exact goTo_laid rfl (by rw [hdn]; simp [moreB])
    | 16, _, _ =>
      obtain ⟨q, q2, r, rfl, hq, hq2⟩ := fits2 hf
      have e2 : nl (q2 :: r) = nl r := nl0 (by omega)
      have e1 : nl (q :: q2 :: r) = nl r := (nl0 (by omega)).trans e2
      rw [e1] at hv1 h
      obtain ⟨d', hd, h'⟩ := h.lay (3, 0, 0) (ok_op _ (by decide)) (nl r) (by omega) (fun h => absurd h (by decide))
      have hdn : d' c.length = nl r := (hd _ (Nat.le_refl _)).trans h.last
      have hlast := h'.last
      have hlen : (c ++ [((3 : Int), (0 : Int), (0 : Int))]).length = c.length + 1 := by simp
      refine ⟨d', ?_⟩
      show GoodD d' (setA (c ++ [(3, 0, 0)]) q.at_.toNat (c ++ [(3, 0, 0)]).length) (⟨q2.kind, q2.at_, q2.gaps ++ [(c.length : Int)]⟩ :: r) [] (nl (⟨q2.kind, q2.at_, q2.gaps ++ [(c.length : Int)]⟩ :: r))
      rw [nl0 (by dsimp only; omega)]
      obtain ⟨h2, hQ⟩ := h'.pop
      have hp : places q = [q.at_] := by simp [places, hq]
      rw [hp] at h2
      have hG := hQ.1 q.at_ (by rw [hp]; simp)
      rw [e2] at hG
      have h3 := GoodD.setA (g := q.at_) h2 _ (hG.len hlast) ⟨by omega, by omega⟩
      obtain ⟨h4, hQ2⟩ := h3.pop
      have hp2 : places q2 = q2.gaps := by simp [places, hq2]
      have hp3 : places ⟨q2.kind, q2.at_, q2.gaps ++ [(c.length : Int)]⟩ = q2.gaps ++ [(c.length : Int)] := by simp [places, hq2]
      rw [hp2] at h4
      refine GoodD.push (by rw [hp3]; exact h4.mono (fun g hg => by simpa using hg)) ⟨fun g hg => ?_, fun hk => by dsimp only at hk; omega, fun hk => by dsimp only at hk; omega⟩
      rw [hp3] at hg
      rcases List.mem_append.1 hg with hg | hg
      · exact hQ2.1 g (by rw [hp2]; exact hg)
      · obtain rfl : g = c.length := by simpa using hg
        exact (goTo_laid rfl (by rw [hdn]; simp [moreB])).ext (ext_set _ _ _)
    | 17, _, _ =>
      obtain ⟨q, r, rfl, hq⟩ := fits1 hf
      have e1 : nl (q :: r) = nl r := nl0 (by omega)
      rw [e1] at hv1 h
      obtain ⟨d', hd, h'⟩ := h.lay (11, 0, 0) (ok_op _ (by decide)) (nl r) (by omega) (fun _ => by simp [moreA])
      have hdn : d' c.length = nl r := (hd _ (Nat.le_refl _)).trans h.last
      have hlast := h'.last
      have hlen : (c ++ [((11 : Int), (0 : Int), (0 : Int))]).length = c.length + 1 := by simp
      refine ⟨d', ?_⟩
      show GoodD d' (closeG (c ++ [(11, 0, 0)]) q.gaps) r [] (nl r)
      have h2 := h'.drop (by omega) (fun y hy => by rw [Int.toNat_natCast, laid_get] at hy; cases hy; rfl)
      obtain ⟨h3, hQ⟩ := h2.pop
      have hp : places q = q.gaps := by simp [places, hq]
      rw [hp] at h3
      exact h3.close q.gaps (fun g hg => hQ.1 g (by rw [hp]; exact hg))
    | m + 18, _, h => exact absurd h (by omega)
  · exact h
/-- What is made has a static depth, once all is closed. -/
theorem inv_dep (code : List I3) (h : InvS (code, [])) (hl : code.length ≤ 499) : ∃ d, Dep (code ++ [(15, 0, 0)]) d ∧ d code.length = 0 ∧ ∀ x ∈ code, okI x := by
  obtain ⟨d, h⟩ := h
  dsimp only at h
  refine ⟨d, ⟨h.zero, fun i hi => h.pos i (by simp at hi; omega), fun x hx => ?_, fun i x hx hon => ?_, fun i x hx hgo => ?_, by simp; omega⟩, h.last, h.ok⟩
  · rcases List.mem_append.1 hx with hx | hx
    · have := (h.ok x hx).1
      omega
    · simp at hx; subst hx; decide
  · by_cases h1 : i < code.length
    · rw [List.getElem?_append_left h1] at hx
      exact ⟨by simp; omega, h.onn i x hx hon⟩
    · rw [List.getElem?_append_right (by omega)] at hx
      cases hq : i - code.length with
      | zero => rw [hq] at hx; simp at hx; subst hx; cases hon
      | succ j => rw [hq] at hx; simp at hx
  · by_cases h1 : i < code.length
    · rw [List.getElem?_append_left h1] at hx
      rcases h.goo i x hx hgo with h2 | h2 | ⟨h2, h3, h4⟩
      · simp at h2
      · simp [opens] at h2
      · exact ⟨h2, by simp; omega, h4⟩
    · rw [List.getElem?_append_right (by omega)] at hx
      cases hq : i - code.length with
      | zero => rw [hq] at hx; simp at hx; subst hx; cases hgo
      | succ j => rw [hq] at hx; simp at hx
end Go.Proofs.Ytdpoobkfhmmbjaa
