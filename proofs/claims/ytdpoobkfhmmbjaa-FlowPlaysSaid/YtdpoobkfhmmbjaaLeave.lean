/- The walk of flow.Builder's leave. -/
import Derived.Test.YtdpoobkfhmmbjaaInnerAny
import Derived.Test.YtdpoobkfhmmbjaaEndOf
namespace Go.Proofs.Ytdpoobkfhmmbjaa
open Go.RowKit Go.Shelf
open Go.MapKept (heap_alloc)
def eltOf (ps : List (Prt × Value)) (j : Nat) : Elt := match ps[j]? with
  | some (q, .slice a n c) => ⟨j, q.kind, q.at_, a, n, c⟩
  | _ => ⟨j, 0, 0, none, 0, 0⟩
section
variable {F : Nat → Prop} {w : World} {p : Nat} {vc vp : Value} {code : List I3} {ps : List (Prt × Value)}
theorem Kept.ofBel {S : Nat → Prop} {w w' : World} (h : Below w.heap.size w w') : Kept S w w' := ⟨h.os, h.tape, h.output, h.size, fun r hr _ => h.block r hr⟩
theorem elt_get (B : Bld F w p vc vp code ps) {j : Nat} (hj : j < ps.length) : ∃ q a n c, ps[j]? = some (q, .slice a n c) ∧ eltOf ps j = ⟨j, q.kind, q.at_, a, n, c⟩ := by
  obtain ⟨⟨q, v⟩, hq⟩ : ∃ x, ps[j]? = some x := ⟨_, List.getElem?_eq_getElem hj⟩
  obtain ⟨a, c, hv, _⟩ := owns_slice (B.gaps _ (List.mem_of_getElem? hq))
  dsimp only at hv
  subst hv
  exact ⟨q, a, _, c, hq, by rw [eltOf, hq]⟩
theorem elt_idx (ps : List (Prt × Value)) (j : Nat) : (eltOf ps j).idx = j := by
  unfold eltOf
  split <;> rfl
theorem inner_some (B : Bld F w p vc vp code ps) (h0 : 0 < ps.length) (hl : ps.length < 99) : Calls Try.prog 28 #[.pointer (some ⟨p, 0, none⟩)] w fun e W' => (∃ r, e = .returned (.int .i64 r) ∧ InnerIs (eltOf ps) ps.length r) ∧ Below w.heap.size w W' := by
  obtain ⟨a, c, hvp, _⟩ := owns_slice B.parts
  obtain ⟨x, hx⟩ : ∃ x, ps[0]? = some x := ⟨_, List.getElem?_eq_getElem h0⟩
  subst hvp
  obtain ⟨b, rfl, _, _⟩ := owns_cell B.parts (partsV_get ps 0 x hx).1
  refine (callsIn_wide (n := 3)).1 (inner_some_in Fence.wide 3 trivial trivial trivial rfl (by omega) p b ps.length c (eltOf ps) hl (elt_idx ps) w (Array.getElem?_eq_some_iff.1 B.own).1 (owns_lt B.parts rfl) (by rw [cell_block B.own]; rfl) (fun j hj => ?_))
  obtain ⟨q, a', n', c', hq, he⟩ := elt_get B hj
  obtain ⟨g0, g1, g2⟩ := partsV_get ps j _ hq
  obtain ⟨b0, hb0, e0, _⟩ := owns_cell B.parts g0
  cases hb0
  obtain ⟨b0, hb0, e1, _⟩ := owns_cell B.parts g1
  cases hb0
  obtain ⟨b0, hb0, e2, _⟩ := owns_cell B.parts g2
  cases hb0
  rw [he]
  exact ⟨e0, e1, e2⟩
/-- the uppermost loop -/
theorem inner_at {l1 l2 : List (Prt × Value)} {x : Prt × Value} (B : Bld F w p vc vp code (l1 ++ x :: l2)) (hl : (l1 ++ x :: l2).length < 99) (hx : x.1.kind = 2) (h2 : ∀ y ∈ l2, y.1.kind ≠ 2) :
    Calls Try.prog 28 #[.pointer (some ⟨p, 0, none⟩)] w fun e W' => e = .returned (.int .i64 (l1.length : Int)) ∧ Below w.heap.size w W' := by
  refine (inner_some B (by simp; omega) hl).mono fun e W' ⟨⟨r, he, hr⟩, hb⟩ => ⟨?_, hb⟩
  have hat : (eltOf (l1 ++ x :: l2) l1.length).kind = 2 := by
    obtain ⟨q, a, n, c, hq, h⟩ := elt_get B (j := l1.length) (by simp)
    rw [h]
    simp at hq
    subst hq
    exact hx
  have hup : ∀ i, l1.length < i → i < (l1 ++ x :: l2).length → (eltOf (l1 ++ x :: l2) i).kind ≠ 2 := fun i h3 h4 => by
    obtain ⟨q, a, n, c, hq, h⟩ := elt_get B h4
    rw [h]
    have : (q, Value.slice a n c) ∈ l2 := by
      rw [List.getElem?_append_right (by omega)] at hq
      obtain ⟨d, hd⟩ : ∃ d, i - l1.length = d + 1 := ⟨i - l1.length - 1, by omega⟩
      rw [hd] at hq
      exact List.mem_of_getElem? (by simpa using hq)
    exact h2 _ this
  rcases hr with ⟨_, hno⟩ | ⟨j, rfl, hj, hk, hno⟩
  · exact absurd hat (hno _ (by simp))
  · rcases Nat.lt_trichotomy j l1.length with h | h | h
    · exact absurd hat (hno _ h (by simp))
    · rw [he, h]
    · exact absurd hk (hup j h hj)
theorem inner_none (B : Bld F w p vc vp code ps) (hl : ps.length < 99) (h : ∀ y ∈ ps, y.1.kind ≠ 2) : Calls Try.prog 28 #[.pointer (some ⟨p, 0, none⟩)] w fun e W' => e = .returned (.int .i64 (-1)) ∧ Below w.heap.size w W' := by
  by_cases h0 : 0 < ps.length
  · refine (inner_some B h0 hl).mono fun e W' ⟨⟨r, he, hr⟩, hb⟩ => ⟨?_, hb⟩
    rcases hr with ⟨rfl, _⟩ | ⟨j, rfl, hj, hk, _⟩
    · exact he
    · obtain ⟨q, a, n, c, hq, h'⟩ := elt_get B hj
      rw [h'] at hk
      exact absurd hk (h _ (List.mem_of_getElem? hq))
  · obtain rfl : ps = [] := List.length_eq_zero_iff.1 (by omega)
    exact inner_empty B
set_option maxRecDepth 100000 in
set_option maxHeartbeats 4000000 in
theorem leave_any {l1 l2 : List (Prt × Value)} {q : Prt × Value} (B : Bld F w p vc vp code (l1 ++ q :: l2)) (hF : ∀ r, w.heap.size ≤ r → F r) (hl : (l1 ++ q :: l2).length < 99) (hx : q.1.kind = 2) (h2 : ∀ y ∈ l2, y.1.kind ≠ 2) (hgl : q.1.gaps.length < 600) (v : Int) :
    Calls Try.prog 51 #[.pointer (some ⟨p, 0, none⟩), .int .i64 v] w fun e w' => e = .returned (.tuple #[]) ∧ (∃ vp' gv', Bld F w' p vc vp' code (l1 ++ (⟨q.1.kind, q.1.at_, q.1.gaps ++ [v]⟩, gv') :: l2)) ∧ Kept F w w' := by
  have HT := Lib.hid (inner_at B.drew hl hx h2)
  have HF := Lib.hid hF
  obtain ⟨⟨kind, at_, gaps⟩, qv⟩ := q
  obtain ⟨qa, qc, hq, hq1, hq2, hq3⟩ := owns_slice (B.gaps (⟨kind, at_, gaps⟩, qv) (by simp))
  dsimp only at hq hq1 hq2 hq3 hgl hx
  subst hq
  obtain ⟨a, c, hvp, h1, h3, _⟩ := owns_slice B.parts
  subst hvp
  obtain ⟨g0, g1, g2⟩ := partsV_get (l1 ++ ((⟨kind, at_, gaps⟩ : Prt), Value.slice qa gaps.length qc) :: l2) l1.length (⟨kind, at_, gaps⟩, .slice qa gaps.length qc) (by simp)
  obtain ⟨g, hg, _, _⟩ := owns_cell B.parts g2
  subst hg
  obtain ⟨np, hnp⟩ : ∃ np, np = (l1 ++ ((⟨kind, at_, gaps⟩ : Prt), Value.slice qa gaps.length qc) :: l2).length := ⟨_, rfl⟩
  have hlt1 : l1.length < np := by rw [hnp]; simp
  rw [← hnp] at B h1 hl
  have HPC := Lib.hid (fun (w' : World) (B' : Bld F w' p vc (.slice (some ⟨g, 0, none⟩) np c) code (l1 ++ ((⟨kind, at_, gaps⟩ : Prt), Value.slice qa gaps.length qc) :: l2)) => show w'.cell? ⟨p, 1, none⟩ = some (.slice (some ⟨g, 0, none⟩) np c) by rw [cell_block B'.own]; rfl)
  have HGC := Lib.hid (fun (w' : World) (B' : Bld F w' p vc (.slice (some ⟨g, 0, none⟩) np c) code (l1 ++ ((⟨kind, at_, gaps⟩ : Prt), Value.slice qa gaps.length qc) :: l2)) => show w'.cell? ⟨g, l1.length * 3 + 2, none⟩ = some (.slice qa gaps.length qc) ∧ w'.frozen? ⟨g, l1.length * 3 + 2, none⟩ = false by
    obtain ⟨g', hg', a1, a2⟩ := owns_cell (by have := B'.parts; rw [← hnp] at this; exact this) g2
    cases hg'
    exact ⟨a1, a2⟩)
  have HBD := Lib.hid B.drew
  have HA := Lib.hid (HPC.out _ B.drew)
  have hb2 : (0 : Int) ≤ (l1.length : Int) := by omega
  have hb3 : (l1.length : Int) < (np : Int) := by omega
  have hb4 : ((l1.length : Int)).toNat = l1.length := by omega
  clear B hF hq3 g0 g1 g2 hnp h2 hx
  dsimp only
  obtain ⟨i0, hi0, hz0, hz1, hz2⟩ := info_parts info3
  go_enter Try.func51, Try.ntmps51
  go_wp2_with fail
  go_region_held3 (fun w' => w'.cell? ⟨p, 1, none⟩ = some (.slice (some ⟨g, 0, none⟩) np c))
    (first | exact HA.out | exact HS.out)
    (first
      | (go_at_call 28; refine HT.out.mono ?_; rintro e w1 ⟨rfl, hbw⟩
         have HB1 := Lib.hid (HBD.out.kept (Kept.ofBel (S := fun _ => False) hbw) (fun _ _ h => h))
         have HS := Lib.hid (HPC.out _ HB1.out)
         have HK1 := Lib.hid (((Kept.refl F w).drew).trans (Kept.ofBel hbw))
         clear hbw))
  all_goals (
    have hxg := HGC.out _ HB1.out
    have e3 : w1.cell? ⟨g, l1.length * 3 + 2, none⟩ = some (.slice qa gaps.length qc) := hxg.1
    have f3 : w1.frozen? ⟨g, l1.length * 3 + 2, none⟩ = false := hxg.2
    have HBA := Lib.hid (HB1.out.alloc (.cells #[.int .i64 v] 3))
    have HQA := Lib.hid (HBA.out.gaps (⟨kind, at_, gaps⟩, .slice qa gaps.length qc) (by simp))
    have HXA := Lib.hid (HGC.out _ HBA.out)
    have HNF := Lib.hid (grown_hF HF.out HK1.out)
    clear hb2 hb3 hb4 hxg
    go_wp2_with (first
      | (at_builtin; refine wpList_append_lies _ rfl _ _ _ rfl 0 3 i0 _ 1 8 Try.underlying23 hi0 hz0 hz1 hz2 rfl (by omega) (.slice qa gaps.length qc) gaps.length (gaps.map intV) rfl HQA.out ⟨w1.heap.size, 0, none⟩ 1 1 [.int .i64 v] rfl rfl (World.news_of_block (cs := #[.int .i64 v]) (t := 3) (fr := (0, 0)) (heap_alloc_new w1 _)) (by simp [Value.oneCell']) (by omega) (by simp only [maxLen]; omega) (by omega) (by omega) (w1.heap.size + 1) (by simp) ?_; intro gg cap w4 hown1 hgrow hat hlt
         have HT4 := Lib.hid (HBA.out.set_gap v hown1 hgrow (fun k hk => by simp [Value.ownBlock] at hk; subst hk; rcases hat with h | h; exact HBA.out.fg (⟨kind, at_, gaps⟩, .slice qa gaps.length qc) (by simp) _ h; exact HNF.out _ (by omega)) (by
           rcases hat with h | h
           · exact .inl h.symm
           · exact .inr (fun k hk => by simp [Value.ownBlock] at hk; simp; omega)))
         have hne : some g ≠ (Value.slice qa gaps.length qc).ownBlock := fun h => by
           rcases owns_apart HQA.out HBA.out.parts (by decide) with h4 | h4
           · rw [h4] at h; cases h
           · exact h4 h.symm
         have hglt : g < (w1.alloc (.cells #[.int .i64 v] 3)).heap.size := owns_lt HBA.out.parts rfl
         have x1 : w4.cell? ⟨g, l1.length * 3 + 2, none⟩ = some (.slice qa gaps.length qc) := (hgrow.cell_far _ hglt hne).trans HXA.out.1
         have x2 : w4.frozen? ⟨g, l1.length * 3 + 2, none⟩ = false := (hgrow.frozen_far _ hglt hne).trans HXA.out.2
         clear hown1 hgrow hat hlt hne hglt)))
  all_goals (first | go_end0 | skip)
  all_goals exact ⟨rfl, ⟨_, _, HT4.out.1⟩, (HK1.out.alloc _).trans HT4.out.2⟩
end
end Go.Proofs.Ytdpoobkfhmmbjaa
