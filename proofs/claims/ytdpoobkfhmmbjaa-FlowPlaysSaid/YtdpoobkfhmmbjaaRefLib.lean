/- append(append([]T{}, l...), x), as the document's builder makes each of its rows: the run of the first append, whatever l is, nil included; the shapes in which the walks meet it. -/
import Derived.Test.YtdpoobkfhmmbjaaRefA
import Derived.Deep.AppendLies
import Derived.Laws.AppendOwnNone
namespace Go.Proofs.Ytdpoobkfhmmbjaa
open Go.RowKit
section
variable {P : Program} (w : World)
theorem run_append_fresh (t ty e : TypeId) (i : TypeInfo) (z : Value) (size bytes : Nat) (ht : P.underlying t = some (.slice e)) (hi : P.info? e = some i) (hz : i.zero = some z)
    (hsize : i.size = size) (hby : i.bytes = bytes) (hzs : z.cells.size = size) (hsz : 0 < size)
    (B : Nat) (hB : w.heap[B]? = some (.cells #[] e (0, 0))) (v : Value) (n : Nat) (xs : List Value) (hown : w.ownsRow 0 e size v n xs) (h1 : ∀ u ∈ xs, u.oneCell' = true)
    (h63 : n ≤ maxLen) (hbytes : n * bytes ≤ 140737488355328) :
    ∃ a c w', (Builtin.append_ #[t, t] ty #[.slice (some ⟨B, 0, none⟩) 0 0, v]).run P w = .ok (.slice a n c) w' ∧ w'.ownsRow 0 e size (.slice a n c) n xs ∧ Kept (fun r => r = B) w w' ∧
      ∀ k, (Value.slice a n c).ownBlock = some k → k = B ∨ w.heap.size ≤ k := by
  have h0 : w.ownsRow 0 e size (.slice (some ⟨B, 0, none⟩) 0 0) 0 [] := ⟨by simp, .inr ⟨B, 0, #[], rfl, Nat.zero_le _, hB, Nat.le_refl _, by simp [maxLen], by simp, by simp⟩⟩
  rcases hown.2 with ⟨rfl, rfl⟩ | ⟨g, cap, cur, rfl, hbg, hg, hnc, hcm, hcs, htake⟩
  · obtain rfl : xs = [] := List.eq_nil_of_length_eq_zero (by simpa using hown.1)
    exact ⟨_, _, w, run_append_owned_none (P := P) (w := w) 0 t ty e i size ht hi _ 0 [] h0, h0, Kept.refl _ _, fun k hk => .inl (by simpa [Value.ownBlock] using hk.symm)⟩
  · have hc : ∀ j u, xs[j]? = some u → w.cell? ((⟨g, 0, none⟩ : Addr).add j) = some u := hown.cells (g := g) rfl
    obtain ⟨v', w', hr, h2, h3, _⟩ := run_append_own (P := P) w 0 t ty e i z size bytes ht hi hz hsize hby hzs hsz _ 0 [] h0 ⟨g, 0, none⟩ n cap xs hown.1 hc h1 (by simpa using h63) (by simpa using hbytes) (Nat.zero_le _)
    subst hsize
    have h4 := append_where w 0 t ty e i z ht hi hz hzs hsz _ 0 [] h0 ⟨g, 0, none⟩ n cap xs hown.1 hc h1 (by simpa using h63) (by rw [hby]; simpa using hbytes) hr
    obtain ⟨a, c, rfl, _⟩ := owns_slice h2
    simp only [Nat.zero_add, List.nil_append] at h2 hr h4
    refine ⟨a, c, w', hr, h2, (Kept.refl _ w).grown h3 (fun k hk => .inl (by simpa [Value.ownBlock] using hk.symm)), fun k hk => ?_⟩
    rcases h4 with h4 | h4
    · rw [h4] at hk; exact .inl (by simpa [Value.ownBlock] using hk.symm)
    · exact .inr (h4 k hk)
theorem wp_append_fresh {o : Oper} {a : Act} {K : Act → World → Prop} {Q : Exit → Act → World → Prop} (s x : Operand) (t : TypeId)
    (ho : o.op = .call { callee := .builtin .append, args := #[s, x], argTypes := #[t, t] })
    (e : TypeId) (i : TypeInfo) (z : Value) (size bytes : Nat) (ht : P.underlying t = some (.slice e)) (hi : P.info? e = some i) (hz : i.zero = some z)
    (hsize : i.size = size) (hby : i.bytes = bytes) (hzs : z.cells.size = size) (hsz : 0 < size)
    (B : Nat) (hs : a.eval s = .slice (some ⟨B, 0, none⟩) 0 0) (hB : w.heap[B]? = some (.cells #[] e (0, 0))) (v : Value) (n : Nat) (xs : List Value) (hx : a.eval x = v) (hown : w.ownsRow 0 e size v n xs) (h1 : ∀ u ∈ xs, u.oneCell' = true)
    (h63 : n ≤ maxLen) (hbytes : n * bytes ≤ 140737488355328)
    (h : ∀ a1 c w', w'.ownsRow 0 e size (.slice a1 n c) n xs → Kept (fun r => r = B) w w' → (∀ k, (Value.slice a1 n c).ownBlock = some k → k = B ∨ w.heap.size ≤ k) → K (a.put o.dst (.slice a1 n c)) w') : o.wp P a w K Q := by
  obtain ⟨a1, c, w', hr, h2, h3, h4⟩ := run_append_fresh (P := P) w t o.type e i z size bytes ht hi hz hsize hby hzs hsz B hB v n xs hown h1 h63 hbytes
  unfold Oper.wp execOp
  simp only [ho, resolve, invoke, builtin, Sem.run_bind, Sem.run_pure, Result.andThen_ok, List.map_toArray, List.map_cons, List.map_nil, hs, hx, hr]
  exact h a1 c w' h2 h3 h4
theorem wpList_append_fresh {ops : Array Oper} {rest : List Oper} {o : Oper} {a : Act} {Q : Exit → Act → World → Prop} (hgd : o.guard = none) (s x : Operand) (t : TypeId)
    (ho : o.op = .call { callee := .builtin .append, args := #[s, x], argTypes := #[t, t] })
    (e : TypeId) (i : TypeInfo) (z : Value) (size bytes : Nat) (ht : P.underlying t = some (.slice e)) (hi : P.info? e = some i) (hz : i.zero = some z)
    (hsize : i.size = size) (hby : i.bytes = bytes) (hzs : z.cells.size = size) (hsz : 0 < size)
    (B : Nat) (hs : a.eval s = .slice (some ⟨B, 0, none⟩) 0 0) (hB : w.heap[B]? = some (.cells #[] e (0, 0))) (v : Value) (n : Nat) (xs : List Value) (hx : a.eval x = v) (hown : w.ownsRow 0 e size v n xs) (h1 : ∀ u ∈ xs, u.oneCell' = true)
    (h63 : n ≤ maxLen) (hbytes : n * bytes ≤ 140737488355328)
    (h : ∀ a1 c w', w'.ownsRow 0 e size (.slice a1 n c) n xs → Kept (fun r => r = B) w w' → (∀ k, (Value.slice a1 n c).ownBlock = some k → k = B ∨ w.heap.size ≤ k) → wpList P ops Q rest (a.put o.dst (.slice a1 n c)) w') : wpList P ops Q (o :: rest) a w :=
  wpList_plain hgd fun _ hK => wp_append_fresh w s x t ho e i z size bytes ht hi hz hsize hby hzs hsz B hs hB v n xs hx hown h1 h63 hbytes fun a1 c w' h2 h3 h4 => hK _ _ (h a1 c w' h2 h3 h4)
theorem step_append_fresh {ops : Array Oper} {o : Oper} {a : Act} {K : Act → World → Prop} {Q : Exit → Act → World → Prop} {E : Prop} (hgd : o.guard = none) (s x : Operand) (t : TypeId)
    (ho : o.op = .call { callee := .builtin .append, args := #[s, x], argTypes := #[t, t] })
    (e : TypeId) (i : TypeInfo) (z : Value) (size bytes : Nat) (ht : P.underlying t = some (.slice e)) (hi : P.info? e = some i) (hz : i.zero = some z)
    (hsize : i.size = size) (hby : i.bytes = bytes) (hzs : z.cells.size = size) (hsz : 0 < size)
    (B : Nat) (hs : a.eval s = .slice (some ⟨B, 0, none⟩) 0 0) (hB : w.heap[B]? = some (.cells #[] e (0, 0))) (v : Value) (n : Nat) (xs : List Value) (hx : a.eval x = v) (hown : w.ownsRow 0 e size v n xs) (h1 : ∀ u ∈ xs, u.oneCell' = true)
    (h63 : n ≤ maxLen) (hbytes : n * bytes ≤ 140737488355328)
    (h : ∀ a1 c w', w'.ownsRow 0 e size (.slice a1 n c) n xs → Kept (fun r => r = B) w w' → (∀ k, (Value.slice a1 n c).ownBlock = some k → k = B ∨ w.heap.size ≤ k) → K (a.put o.dst (.slice a1 n c)) w') :
    if Region.wanted o (yielded ops a.tmps) = true then Oper.wp P o a w K Q else E := by
  have hw : Region.wanted o (yielded ops a.tmps) = true := by simp [Region.wanted, hgd]
  rw [if_pos hw]
  exact wp_append_fresh w s x t ho e i z size bytes ht hi hz hsize hby hzs hsz B hs hB v n xs hx hown h1 h63 hbytes h
end
theorem info80 : (Try.prog.info? 80).map (fun i => (i.zero, i.size, i.bytes)) = some (some (.agg #[.int .i64 0, .int .i64 0, .slice none 0 0]), 3, 40) := by kernel_rfl
theorem info3r : (Try.prog.info? 3).map (fun i => (i.zero, i.size, i.bytes)) = some (some (.int .i64 0), 1, 8) := by kernel_rfl
theorem codeV_one (c : List I3) : ∀ u ∈ codeV c, u.oneCell' = true := by
  intro u hu
  obtain ⟨x, _, hx⟩ := List.mem_flatMap.1 hu
  simp [insV] at hx
  rcases hx with rfl | rfl | rfl <;> rfl
theorem gapsV_one (c : List Int) : ∀ u ∈ c.map intV, u.oneCell' = true := by
  intro u hu
  obtain ⟨x, _, rfl⟩ := List.mem_map.1 hu
  rfl
theorem owns_one {w : World} {base : Nat} {e : TypeId} {size : Nat} {v : Value} {n : Nat} {xs : List Value} (h : w.ownsRow base e size v n xs) : v.oneCell' = true := by
  obtain ⟨a, c, rfl, _⟩ := owns_slice h
  rfl
theorem partsV_one {w : World} (ps : List (Prt × Value)) (h : ∀ q ∈ ps, w.ownsRow 0 3 1 q.2 q.1.gaps.length (q.1.gaps.map intV)) : ∀ u ∈ partsV ps, u.oneCell' = true := by
  intro u hu
  obtain ⟨x, hq, hx⟩ := List.mem_flatMap.1 hu
  simp [partV] at hx
  rcases hx with rfl | rfl | rfl
  · rfl
  · rfl
  · exact owns_one (h x hq)
theorem heap_second (w : World) (o o2 : Obj) : ((w.alloc o).alloc o2).drew.heap[w.heap.size + 1]? = some o2 := by
  have := (Go.MapKept.heap_alloc (w.alloc o) o2).1
  rw [show (w.alloc o).heap.size = w.heap.size + 1 by simp] at this
  exact this
theorem heap_first (w : World) (o o2 : Obj) : ((w.alloc o).alloc o2).drew.heap[w.heap.size]? = some o := by
  have := Below.heap_alloc (w.alloc o) o2 w.heap.size (by simp)
  exact this.trans (Go.MapKept.heap_alloc w o).1
theorem own_snoc {w : World} {v : Value} {code : List I3} {x : I3} (h : w.ownsRow 0 31 3 v (code.length + 1) (codeV code ++ insV x)) : w.ownsRow 0 31 3 v (code ++ [x]).length (codeV (code ++ [x])) := by
  simpa [codeV, List.flatMap_append] using h
theorem own_snocP {w : World} {v : Value} {ps : List (Prt × Value)} {x : Prt × Value} (h : w.ownsRow 0 80 3 v (ps.length + 1) (partsV ps ++ partV x)) : w.ownsRow 0 80 3 v (ps ++ [x]).length (partsV (ps ++ [x])) := by
  simpa [partsV, List.flatMap_append] using h
theorem own_snocG {w : World} {v : Value} {gs : List Int} {x : Int} (h : w.ownsRow 0 3 1 v (gs.length + 1) (gs.map intV ++ [intV x])) : w.ownsRow 0 3 1 v (gs ++ [x]).length ((gs ++ [x]).map intV) := by
  simpa using h
theorem Kept.young {S : Nat → Prop} {w W w1 : World} (K : Kept NB w W) (K1 : Kept S W w1) (h : ∀ r, S r → w.heap.size ≤ r) : Kept NB w w1 :=
  ⟨K1.os.trans K.os, K1.tape.trans K.tape, K1.output.trans K.output, Nat.le_trans K.size K1.size, fun r hr hs => (K1.block r (Nat.lt_of_lt_of_le hr K.size) (fun h2 => by have := h r h2; omega)).trans (K.block r hr hs)⟩
/-- The document's builder, and the blocks that are its own. -/
structure RBld (F : Nat → Prop) (w : World) (p : Nat) (vc vp : Value) (code : List I3) (ps : List (Prt × Value)) : Prop where
  b : RefB w p vc vp code ps
  fp : F p
  fc : ∀ k, vc.ownBlock = some k → F k
  fq : ∀ k, vp.ownBlock = some k → F k
  fg : ∀ q ∈ ps, ∀ k, q.2.ownBlock = some k → F k
section
variable {F : Nat → Prop} {w W : World} {p : Nat} {vc vp v' : Value} {code code' : List I3} {ps ps' : List (Prt × Value)}
theorem RefB.young (B : RefB w p vc vp code ps) (K : Kept NB w W) : RefB W p vc vp code ps := B.kept K (fun h => h) (fun _ _ h => h) (fun _ _ h => h) (fun _ _ _ _ h => h)
theorem RBld.young (B : RBld F w p vc vp code ps) (K : Kept NB w W) : RBld F W p vc vp code ps := ⟨B.b.young K, B.fp, B.fc, B.fq, B.fg⟩
theorem RBld.kept {S : Nat → Prop} (B : RBld F w p vc vp code ps) (K : Kept S w W) (h : ∀ r, F r → ¬ S r) : RBld F W p vc vp code ps :=
  ⟨B.b.kept K (h _ B.fp) (fun k hk => h _ (B.fc k hk)) (fun k hk => h _ (B.fq k hk)) (fun q hq k hk => h _ (B.fg q hq k hk)), B.fp, B.fc, B.fq, B.fg⟩
theorem RBld.tight (B : RBld F w p vc vp code ps) : RBld (fun r => F r ∧ r < w.heap.size) w p vc vp code ps :=
  ⟨B.b, ⟨B.fp, (Array.getElem?_eq_some_iff.1 B.b.own).1⟩, fun k hk => ⟨B.fc k hk, owns_lt B.b.code hk⟩, fun k hk => ⟨B.fq k hk, owns_lt B.b.parts hk⟩, fun q hq k hk => ⟨B.fg q hq k hk, owns_lt (B.b.gaps q hq) hk⟩⟩
theorem RBld.mono {G : Nat → Prop} (B : RBld F w p vc vp code ps) (h : ∀ r, F r → G r) : RBld G w p vc vp code ps :=
  ⟨B.b, h _ B.fp, fun k hk => h _ (B.fc k hk), fun k hk => h _ (B.fq k hk), fun q hq k hk => h _ (B.fg q hq k hk)⟩
theorem RBld.setOff (B : RBld F w p vc vp code ps) {q : Addr} (hq : ¬ F q.block) (u : Value) : RBld F (w.setCell q u) p vc vp code ps := B.kept (kept_at w q u) (fun _r hr h => hq (h ▸ hr))
theorem rown_set0 {w1 : World} {v1 v2 u : Value} (h : w1.heap[p]? = some (.cells #[v1, v2] 50 (0, 0))) : (w1.setCell ⟨p, 0, none⟩ u).heap[p]? = some (.cells #[u, v2] 50 (0, 0)) := by
  rw [setCell_eq_setRow w1 p 0 _ _ _ _ h, setRow_heap w1 p _ _ _ _ h]; rfl
theorem rown_set1 {w1 : World} {v1 v2 u : Value} (h : w1.heap[p]? = some (.cells #[v1, v2] 50 (0, 0))) : (w1.setCell ⟨p, 1, none⟩ u).heap[p]? = some (.cells #[v1, u] 50 (0, 0)) := by
  rw [setCell_eq_setRow w1 p 1 _ _ _ _ h, setRow_heap w1 p _ _ _ _ h]; rfl
/-- behind 'b.L = ..' -/
theorem RBld.set_code (B : RBld F w p vc vp code ps) (K : Kept NB w W) (own : W.ownsRow 0 31 3 v' code'.length (codeV code')) (hv : ∀ k, v'.ownBlock = some k → F k) :
    RBld F (W.setCell ⟨p, 0, none⟩ v') p v' vp code' ps ∧ Kept (fun r => r = p) w (W.setCell ⟨p, 0, none⟩ v') := by
  have B2 := B.b.young K
  have K2 := kept_at W ⟨p, 0, none⟩ v'
  have hne : ∀ {e : TypeId} {size : Nat} {v : Value} {m : Nat} {xs : List Value}, e ≠ 50 → W.ownsRow 0 e size v m xs → (W.setCell ⟨p, 0, none⟩ v').ownsRow 0 e size v m xs := fun he h => owns_kept h K2 (fun k hk h4 => owns_ne h B2.own he (by rw [hk]; exact congrArg some h4))
  exact ⟨⟨⟨rown_set0 B2.own, hne (by decide) own, hne (by decide) B2.parts, fun q hq => hne (by decide) (B2.gaps q hq)⟩, B.fp, hv, B.fq, B.fg⟩, (K.mono (fun _ h => h.elim)).trans (K2.mono (fun r hr => hr))⟩
/-- behind 'b.P = ..' -/
theorem RBld.set_parts (B : RBld F w p vc vp code ps) (K : Kept NB w W) (own : W.ownsRow 0 80 3 v' ps'.length (partsV ps')) (hv : ∀ k, v'.ownBlock = some k → F k)
    (hg : ∀ q ∈ ps', W.ownsRow 0 3 1 q.2 q.1.gaps.length (q.1.gaps.map intV)) (hf : ∀ q ∈ ps', ∀ k, q.2.ownBlock = some k → F k) :
    RBld F (W.setCell ⟨p, 1, none⟩ v') p vc v' code ps' ∧ Kept (fun r => r = p) w (W.setCell ⟨p, 1, none⟩ v') := by
  have B2 := B.b.young K
  have K2 := kept_at W ⟨p, 1, none⟩ v'
  have hne : ∀ {e : TypeId} {size : Nat} {v : Value} {m : Nat} {xs : List Value}, e ≠ 50 → W.ownsRow 0 e size v m xs → (W.setCell ⟨p, 1, none⟩ v').ownsRow 0 e size v m xs := fun he h => owns_kept h K2 (fun k hk h4 => owns_ne h B2.own he (by rw [hk]; exact congrArg some h4))
  exact ⟨⟨⟨rown_set1 B2.own, hne (by decide) B2.code, hne (by decide) own, fun q hq => hne (by decide) (hg q hq)⟩, B.fp, B.fc, hv, hf⟩, (K.mono (fun _ h => h.elim)).trans (K2.mono (fun r hr => hr))⟩
end
end Go.Proofs.Ytdpoobkfhmmbjaa
