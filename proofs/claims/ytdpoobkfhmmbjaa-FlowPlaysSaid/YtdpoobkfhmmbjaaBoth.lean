/- The builder and the document's, side by side in one world, of one plain state; the first 100 of a row. -/
import Derived.Test.YtdpoobkfhmmbjaaRefDoS
import Derived.Test.YtdpoobkfhmmbjaaRefEnd
import Derived.Test.YtdpoobkfhmmbjaaShown
import Derived.Test.YtdpoobkfhmmbjaaSame
namespace Go.Proofs.Ytdpoobkfhmmbjaa
open Go.RowKit
def New (W : World) : Nat → Prop := fun r => W.heap.size ≤ r
theorem New.fin {w w' : World} (K : Kept (New w) w w') : Below w.heap.size w w' := K.below (Below.refl _ w) (Nat.le_refl _) (fun _ h => h)
theorem New.old {w w' : World} (K : Kept (New w) w w') : Kept NB w w' := ⟨K.os, K.tape, K.output, K.size, fun r hr _ => K.block r hr (fun h => by have : w.heap.size ≤ r := h; omega)⟩
theorem cell_old {w w' : World} {S : Nat → Prop} (K : Kept S w w') (a : Addr) (v : Value) (h : w.cell? a = some v) (hs : ¬ S a.block) : w'.cell? a = some v := by
  have hlt : a.block < w.heap.size := by
    unfold World.cell? at h
    cases hb : w.heap[a.block]? with
    | none => rw [hb] at h; simp at h
    | some o => exact (Array.getElem?_eq_some_iff.1 hb).1
  exact (World.cell?_of_block (K.block a.block hlt hs)).trans h
theorem act_one (n : Nat) (a : Int) (s : St) : (actS n a s).1.length = s.1.length := by
  obtain ⟨c, st⟩ := s
  unfold actS
  split <;> simp_all [setA_length, closeG_length]
theorem do_one (n : Int) (s : St) : (doS n s).1.length ≤ s.1.length + 1 := by
  unfold doS
  split
  · rw [act_one]; exact (laid_length _ _).2.1
  · omega
/-- The two builders in one world, on blocks of N. -/
def Duo (N : Nat → Prop) (w : World) (p q : Nat) (s1 s2 : St) : Prop :=
  ∃ F G : Nat → Prop, BldS F w p s1.1 s1.2 ∧ RBldS G w q s2.1 s2.2 ∧ (∀ r, F r → N r ∧ r < w.heap.size) ∧ (∀ r, G r → N r ∧ r < w.heap.size ∧ ¬ F r)
section
variable {N : Nat → Prop} {w w' : World} {p q : Nat} {s s1 s2 s' : St}
theorem RBldS.kept {S F : Nat → Prop} {c : List I3} {st : List Prt} (R : RBldS F w q c st) (K : Kept S w w') (h : ∀ r, F r → ¬ S r) : RBldS F w' q c st := by
  obtain ⟨vc, vp, ps, R, hm⟩ := R
  exact ⟨_, _, _, R.kept K h, hm⟩
theorem RBldS.mono {F G : Nat → Prop} {c : List I3} {st : List Prt} (R : RBldS F w q c st) (h : ∀ r, F r → G r) : RBldS G w q c st := by
  obtain ⟨vc, vp, ps, R, hm⟩ := R
  exact ⟨_, _, _, R.mono h, hm⟩
theorem RBldS.tight {F : Nat → Prop} {c : List I3} {st : List Prt} (R : RBldS F w q c st) : RBldS (fun r => F r ∧ r < w.heap.size) w q c st := by
  obtain ⟨vc, vp, ps, R, hm⟩ := R
  exact ⟨_, _, _, R.tight, hm⟩
theorem RBldS.fp {F : Nat → Prop} {c : List I3} {st : List Prt} (R : RBldS F w q c st) : F q := by
  obtain ⟨vc, vp, ps, R, hm⟩ := R
  exact R.fp
theorem RBldS.cells {F : Nat → Prop} {c : List I3} {st : List Prt} (R : RBldS F w q c st) : ∃ a k a' k', w.cell? ⟨q, 0, none⟩ = some (.slice a c.length k) ∧ w.cell? ⟨q, 1, none⟩ = some (.slice a' st.length k') := by
  obtain ⟨vc, vp, ps, R, hm⟩ := R
  have hl : ps.length = st.length := by have := congrArg List.length hm; simpa using this
  obtain ⟨a, k, rfl, _, _, _⟩ := owns_slice R.b.code
  obtain ⟨a', k', rfl, _, _, _⟩ := owns_slice R.b.parts
  rw [hl] at R
  exact ⟨a, k, a', k', by rw [cell_block R.b.own]; rfl, by rw [cell_block R.b.own]; rfl⟩
theorem Duo.kept (D : Duo N w p q s1 s2) (K : Kept NB w w') : Duo N w' p q s1 s2 := by
  obtain ⟨F, G, B, R, hF, hG⟩ := D
  exact ⟨F, G, B.kept K (fun _ _ h => h), R.kept K (fun _ _ h => h), fun r hr => ⟨(hF r hr).1, Nat.lt_of_lt_of_le (hF r hr).2 K.size⟩, fun r hr => ⟨(hG r hr).1, Nat.lt_of_lt_of_le (hG r hr).2.1 K.size, (hG r hr).2.2⟩⟩
theorem Duo.first {f : Nat} {args : Array Value} {r : Int} (D : Duo N w p q s s2) (hN : ∀ r, w.heap.size ≤ r → N r)
    (C : ∀ F : Nat → Prop, BldS F w p s.1 s.2 → (∀ r, w.heap.size ≤ r → F r) → Calls Try.prog f args w (DoPost F w p r s')) :
    Calls Try.prog f args w fun e w' => e = .returned (.int .i64 r) ∧ Duo N w' p q s' s2 ∧ Kept N w w' := by
  obtain ⟨F, G, B, R, hF, hG⟩ := D
  refine (C (fun r => F r ∨ w.heap.size ≤ r) (B.mono (fun r h => .inl h)) (fun r h => .inr h)).mono ?_
  rintro e w' ⟨he, B', K'⟩
  have hs' := K'.size
  refine ⟨he, ⟨_, G, B'.tight, R.kept K' (fun r hr h => ?_), fun r hr => ?_, fun r hr => ?_⟩, K'.mono fun r hr => ?_⟩
  · have := hG r hr
    rcases h with h | h
    · exact this.2.2 h
    · omega
  · refine ⟨?_, hr.2⟩
    rcases hr.1 with h | h
    · exact (hF r h).1
    · exact hN r h
  · have := hG r hr
    refine ⟨this.1, by omega, fun h => ?_⟩
    rcases h.1 with h | h
    · exact this.2.2 h
    · omega
  · rcases hr with h | h
    · exact (hF r h).1
    · exact hN r h
theorem Duo.second {f : Nat} {args : Array Value} {r : Int} (D : Duo N w p q s1 s) (hN : ∀ r, w.heap.size ≤ r → N r)
    (C : ∀ F : Nat → Prop, RBldS F w q s.1 s.2 → (∀ r, w.heap.size ≤ r → F r) → Calls Try.prog f args w (RDoPost F w q r s')) :
    Calls Try.prog f args w fun e w' => e = .returned (.int .i64 r) ∧ Duo N w' p q s1 s' ∧ Kept N w w' := by
  obtain ⟨F, G, B, R, hF, hG⟩ := D
  refine (C (fun r => G r ∨ w.heap.size ≤ r) (R.mono (fun r h => .inl h)) (fun r h => .inr h)).mono ?_
  rintro e w' ⟨he, R', K'⟩
  have hs' := K'.size
  have hq := hG _ R.fp
  refine ⟨he, ⟨F, _, B.kept K' (fun r hr h => ?_), R'.tight, fun r hr => ?_, fun r hr => ?_⟩, K'.mono fun r hr => ?_⟩
  · subst h; exact hq.2.2 hr
  · have := hF r hr; exact ⟨this.1, by omega⟩
  · refine ⟨?_, hr.2, fun h => ?_⟩
    · rcases hr.1 with h | h
      · exact (hG r h).1
      · exact hN r h
    · rcases hr.1 with h' | h'
      · exact (hG r h').2.2 h
      · have := hF r h; omega
  · subst hr; exact hq.1
/-- a block more, which is neither's -/
theorem Duo.but (D : Duo N w p q s1 s2) (o : Obj) : Duo (fun r => N r ∧ r ≠ w.heap.size) (w.alloc o) p q s1 s2 := by
  obtain ⟨F, G, B, R, hF, hG⟩ := D
  have K := (Kept.refl NB w).alloc o
  have hs : (w.alloc o).heap.size = w.heap.size + 1 := by simp
  refine ⟨F, G, B.kept K (fun _ _ h => h), R.kept K (fun _ _ h => h), fun r hr => ?_, fun r hr => ?_⟩
  · have := hF r hr; exact ⟨⟨this.1, by omega⟩, by omega⟩
  · have := hG r hr; exact ⟨⟨this.1, by omega⟩, by omega, this.2.2⟩
theorem Duo.mono {M : Nat → Prop} (D : Duo N w p q s1 s2) (h : ∀ r, N r → M r) : Duo M w p q s1 s2 := by
  obtain ⟨F, G, B, R, hF, hG⟩ := D
  exact ⟨F, G, B, R, fun r hr => ⟨h r (hF r hr).1, (hF r hr).2⟩, fun r hr => ⟨h r (hG r hr).1, (hG r hr).2⟩⟩
theorem Duo.do1 (D : Duo N w p q s s2) (hN : ∀ r, w.heap.size ≤ r → N r) (hW : Wf s) (hd : s.2.length ≤ 32) (n : Int) :
    Calls Try.prog 13 #[.pointer (some ⟨p, 0, none⟩), .int .i64 n] w fun e w' => e = .returned (.int .i64 (ansS n s)) ∧ Duo N w' p q (doS n s) s2 ∧ Kept N w w' :=
  D.first hN (fun _F B h => do_all B h hW hd n)
theorem Duo.do2 (D : Duo N w p q s1 s) (hN : ∀ r, w.heap.size ≤ r → N r) (hW : Wf s) (hd : s.2.length ≤ 32) (n : Int) :
    Calls Try.prog 22 #[.pointer (some ⟨q, 0, none⟩), .int .i64 n] w fun e w' => e = .returned (.int .i64 (ansS n s)) ∧ Duo N w' p q s1 (doS n s) ∧ Kept N w w' :=
  D.second hN (fun _F B h => rdo_all B h hW hd n)
theorem Duo.put1 (D : Duo N w p q s s2) (hN : ∀ r, w.heap.size ≤ r → N r) (h : s.1.length < 499) (z : Int) :
    Calls Try.prog 14 #[.pointer (some ⟨p, 0, none⟩), .agg #[.int .u8 1, .int .i64 0, .int .i64 z]] w fun e w' => e = .returned (.int .i64 0) ∧ Duo N w' p q (s.1 ++ [(1, 0, z)], s.2) s2 ∧ Kept N w w' :=
  D.first hN (fun _F B hF => put_st B hF (1, 0, z) h)
theorem Duo.put2 (D : Duo N w p q s1 s) (hN : ∀ r, w.heap.size ≤ r → N r) (h : s.1.length < 499) (z : Int) :
    Calls Try.prog 21 #[.pointer (some ⟨q, 0, none⟩), .agg #[.int .u8 1, .int .i64 0, .int .i64 z]] w fun e w' => e = .returned (.int .i64 0) ∧ Duo N w' p q s1 (s.1 ++ [(1, 0, z)], s.2) ∧ Kept N w w' :=
  D.second hN (fun _F B hF => by
    obtain ⟨vc, vp, ps, B, hm⟩ := B
    exact (rput_room B hF (1, 0, z) h).mono fun e w' ⟨he, ⟨vc', hb, _⟩, hk⟩ => ⟨he, ⟨_, _, _, hb, hm⟩, hk⟩)
theorem Duo.len (D : Duo N w p q s1 s2) : Calls Try.prog 23 #[.pointer (some ⟨p, 0, none⟩)] w fun e w' => e = .returned (.int .i64 (s1.1.length : Int)) ∧ w = w' := by
  obtain ⟨F, G, B, R, hF, hG⟩ := D
  exact len_st B
theorem Duo.open (D : Duo N w p q s1 s2) : Calls Try.prog 19 #[.pointer (some ⟨p, 0, none⟩)] w fun e w' => e = .returned (.int .i64 (s1.2.length : Int)) ∧ w = w' := by
  obtain ⟨F, G, B, R, hF, hG⟩ := D
  exact open_st B
theorem Duo.cells (D : Duo N w p q s1 s2) : ∃ a k a' k', w.cell? ⟨q, 0, none⟩ = some (.slice a s2.1.length k) ∧ w.cell? ⟨q, 1, none⟩ = some (.slice a' s2.2.length k') := by
  obtain ⟨F, G, B, R, hF, hG⟩ := D
  exact R.cells
theorem Duo.begin {F : Nat → Prop} (B : BldS F w p [] []) (hF : ∀ r, F r → N r) (hN : ∀ r, w.heap.size ≤ r → N r) :
    Duo N (w.alloc (.cells #[.slice none 0 0, .slice none 0 0] 50)) p w.heap.size ([], []) ([], []) := by
  refine ⟨_, fun r => r = w.heap.size, (B.tight).kept ((Kept.refl NB w).alloc _) (fun _ _ h => h), ⟨.slice none 0 0, .slice none 0 0, [], ⟨⟨(MapKept.heap_alloc w _).1, World.ownsRow_nil _ _ _ _, World.ownsRow_nil _ _ _ _, by simp⟩, rfl, by simp [Value.ownBlock], by simp [Value.ownBlock], by simp⟩, rfl⟩, fun r hr => ?_, fun r hr => ?_⟩
  · exact ⟨hF r hr.1, by have := hr.2; simp; omega⟩
  · subst hr; exact ⟨hN _ (Nat.le_refl _), by simp, fun h => Nat.lt_irrefl _ h.2⟩
theorem Duo.end_open1 (D : Duo N w p q s s2) (h : 0 < s.2.length) (hd : s.2.length ≤ 32) :
    Calls Try.prog 15 #[.pointer (some ⟨p, 0, none⟩)] w fun e w' => e = .returned (.tuple #[.agg #[.slice none 0 0], .int .i64 (-22)]) ∧ Duo N w' p q s s2 ∧ Kept N w w' := by
  obtain ⟨F, G, B, R, hF, hG⟩ := D
  refine (end_st_open B h (by omega)).mono ?_
  rintro e w' ⟨he, B', K'⟩
  have hs' := K'.size
  exact ⟨he, ⟨F, G, B', R.kept K' (fun r hr => (hG r hr).2.2), fun r hr => ⟨(hF r hr).1, by have := hF r hr; omega⟩, fun r hr => ⟨(hG r hr).1, by have := hG r hr; omega, (hG r hr).2.2⟩⟩, K'.mono fun r hr => (hF r hr).1⟩
theorem Duo.end_open2 (D : Duo N w p q s1 s) (h : 0 < s.2.length) (hd : s.2.length ≤ 32) :
    Calls Try.prog 24 #[.pointer (some ⟨q, 0, none⟩)] w fun e w' => e = .returned (.tuple #[.agg #[.slice none 0 0], .int .i64 (-22)]) ∧ Duo N w' p q s1 s ∧ Kept N w w' := by
  obtain ⟨F, G, B, ⟨vc, vp, ps, R, hm⟩, hF, hG⟩ := D
  have hl : ps.length = s.2.length := by have := congrArg List.length hm; simpa using this
  refine (rend_open R (by omega) (by omega)).mono ?_
  rintro e w' ⟨he, R', K'⟩
  have hs' := K'.size
  exact ⟨he, ⟨F, G, B.kept K' (fun r hr h => by subst h; exact (hG _ R.fp).2.2 hr), ⟨_, _, _, R', hm⟩, fun r hr => ⟨(hF r hr).1, by have := hF r hr; omega⟩, fun r hr => ⟨(hG r hr).1, by have := hG r hr; omega, (hG r hr).2.2⟩⟩, K'.mono fun r hr => by subst hr; exact (hG _ R.fp).1⟩
/-- Behind the builder's End: its definition, and the document's builder as it was. -/
def Half (N : Nat → Prop) (w : World) (p q g c : Nat) (code : List I3) : Prop :=
  w.ownsRow 0 31 3 (.slice (some ⟨g, 0, none⟩) (code.length + 1) c) (code.length + 1) (codeV (code ++ [(15, 0, 0)])) ∧ g ≠ q ∧ BldS (fun r => r ≠ q) w p [] [] ∧ N q ∧ q < w.heap.size ∧ ∃ G, RBldS G w q code []
theorem Duo.end1 {code : List I3} (D : Duo N w p q (code, []) (code, [])) (hN : ∀ r, w.heap.size ≤ r → N r) (h : code.length < 600) :
    Calls Try.prog 15 #[.pointer (some ⟨p, 0, none⟩)] w fun e w' => ∃ g c, e = .returned (.tuple #[.agg #[.slice (some ⟨g, 0, none⟩) (code.length + 1) c], .int .i64 0]) ∧ Half N w' p q g c code ∧ Kept N w w' := by
  obtain ⟨F, G, B, R, hF, hG⟩ := D
  have hq := hG _ R.fp
  refine (end_st (F := fun r => F r ∨ w.heap.size ≤ r) (B.mono (fun r h => .inl h)) (fun r h => .inr h) h).mono ?_
  rintro e w' ⟨g, c, he, hr, B', hg, K'⟩
  have hs' := K'.size
  refine ⟨g, c, he, ⟨hr, fun h => ?_, B'.mono (fun r hr h => ?_), hq.1, by omega, G, R.kept K' (fun r hr h => ?_)⟩, K'.mono fun r hr => ?_⟩
  · subst h
    rcases hg with h | h
    · exact hq.2.2 h
    · omega
  · subst h
    rcases hr.1 with h | h
    · exact hq.2.2 h
    · omega
  · have := hG r hr
    rcases h with h | h
    · exact this.2.2 h
    · omega
  · rcases hr with h | h
    · exact (hF r h).1
    · exact hN r h
theorem Half.kept {g c : Nat} {code : List I3} (H : Half N w p q g c code) (K : Kept NB w w') : Half N w' p q g c code := by
  obtain ⟨h1, h2, h3, h4, h6, G, h5⟩ := H
  exact ⟨owns_kept h1 K (fun _ _ h => h), h2, h3.kept K (fun _ _ h => h), h4, Nat.lt_of_lt_of_le h6 K.size, G, h5.kept K (fun _ _ h => h)⟩
theorem Half.but {g c : Nat} {code : List I3} (H : Half N w p q g c code) (o : Obj) : Half (fun r => N r ∧ r ≠ w.heap.size) (w.alloc o) p q g c code := by
  obtain ⟨h1, h2, h3, h4, h6, G, h5⟩ := H.kept ((Kept.refl NB w).alloc o)
  exact ⟨h1, h2, h3, ⟨h4, Nat.ne_of_lt H.2.2.2.2.1⟩, h6, G, h5⟩
/-- Behind the document's End. -/
def Whole (w : World) (p q : Nat) (dv dv2 : Value) (code : List I3) : Prop :=
  w.ownsRow 0 31 3 dv (code ++ [((15 : Int), (0 : Int), (0 : Int))]).length (codeV (code ++ [(15, 0, 0)])) ∧ w.ownsRow 0 31 3 dv2 (code ++ [((15 : Int), (0 : Int), (0 : Int))]).length (codeV (code ++ [(15, 0, 0)])) ∧ w.cell? ⟨q, 0, none⟩ = some (.slice none 0 0) ∧ ∃ F, BldS F w p [] []
theorem Half.end2 {g c : Nat} {code : List I3} (H : Half N w p q g c code) (_hN : ∀ r, w.heap.size ≤ r → N r) (h : code.length < 600) :
    Calls Try.prog 24 #[.pointer (some ⟨q, 0, none⟩)] w fun e w' => ∃ g2 c2, e = .returned (.tuple #[.agg #[.slice (some ⟨g2, 0, none⟩) (code.length + 1) c2], .int .i64 0]) ∧ Whole w' p q (.slice (some ⟨g, 0, none⟩) (code.length + 1) c) (.slice (some ⟨g2, 0, none⟩) (code.length + 1) c2) code ∧ Kept N w w' := by
  obtain ⟨h1, h2, h3, h4, h6, G, vc, vp, ps, R, hm⟩ := H
  obtain rfl : ps = [] := by have := congrArg List.length hm; simpa using this
  refine (rend_ok R h).mono ?_
  rintro e w' ⟨dv, he, hr, hc, K'⟩
  obtain ⟨g2, c2, rfl, _, _⟩ := hr.form (by omega)
  refine ⟨g2, c2, he, ⟨?_, by simpa using hr, hc, _, h3.kept K' (fun r hr h => hr h)⟩, K'.mono fun r hr => ?_⟩
  · simpa using owns_kept h1 K' (fun k hk h => h2 (by simp [Value.ownBlock] at hk; rw [hk]; exact h))
  · subst hr; exact h4
theorem Whole.kept {dv dv2 : Value} {code : List I3} (H : Whole w p q dv dv2 code) (K : Kept NB w w') : Whole w' p q dv dv2 code := by
  obtain ⟨h1, h2, h3, F, h4⟩ := H
  exact ⟨owns_kept h1 K (fun _ _ h => h), owns_kept h2 K (fun _ _ h => h), cell_old K _ _ h3 (fun h => h), F, h4.kept K (fun _ _ h => h)⟩
theorem Whole.same {dv dv2 : Value} {code : List I3} (H : Whole w p q dv dv2 code) (h : code.length < 499) :
    Calls Try.prog 25 #[.agg #[dv], .agg #[dv2]] w fun e w' => e = .returned (.bool true) ∧ Kept NB w w' := by
  obtain ⟨h1, h2, h3, F, h4⟩ := H
  exact same_any _ dv dv2 w h1 h2 (by simp; omega)
theorem Whole.len {dv dv2 : Value} {code : List I3} (H : Whole w p q dv dv2 code) : Calls Try.prog 23 #[.pointer (some ⟨p, 0, none⟩)] w fun e w' => e = .returned (.int .i64 0) ∧ w = w' := by
  obtain ⟨h1, h2, h3, F, h4⟩ := H
  exact len_st h4
end
end Go.Proofs.Ytdpoobkfhmmbjaa
