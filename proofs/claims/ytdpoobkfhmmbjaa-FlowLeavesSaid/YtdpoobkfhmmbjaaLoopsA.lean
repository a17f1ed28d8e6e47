/- The two appends of rhytonref10.Loops. -/
import Derived.Test.YtdpoobkfhmmbjaaLoopsP
import Derived.Test.YtdpoobkfhmmbjaaTos
import Derived.Deep.AppendLies
namespace Go.Proofs.Ytdpoobkfhmmbjaa
open Go.RowKit
open Go.MapKept (heap_alloc)
theorem app_to {ops : Array Oper} {rest : List Oper} {o : Oper} {a : Act} {Q : Exit → Act → World → Prop} (hgd : o.guard = none) (s x : Operand)
    (ho : o.op = .call { callee := .builtin .append, args := #[s, x], argTypes := #[23, 23] })
    {WB W0 : World} {base k : Nat} {d : Nat → Int} {TV MV : Value} {TL ML : List Int} (hT : Tos W0 base k d TV MV TL ML) (hTL : TL.length ≤ 1) (hK : Kept NB WB W0) (hb : base = WB.heap.size) (t : Int)
    {n n1 H : Nat} (hn : n = TL.length) (hn1 : n1 = n + 1) (hH : W0.heap.size = H) (hs : a.eval s = TV) (hx : a.eval x = .slice (some ⟨H, 0, none⟩) 1 1)
    (h : ∀ g c wa, wa.ownsRow base 3 1 (.slice (some ⟨g, 0, none⟩) n1 c) n1 (TL.map intV ++ [.int .i64 t]) → wa.ownsRow base 3 1 MV n (ML.map intV) → some g ≠ MV.ownBlock → Kept NB WB wa →
      wpList Try.prog ops Q rest (a.put o.dst (.slice (some ⟨g, 0, none⟩) n1 c)) wa) : wpList Try.prog ops Q (o :: rest) a (W0.alloc (.cells #[.int .i64 t] 3)) := by
  subst hn hn1 hH
  obtain ⟨i0', hi0, hz0, hz1, hz2⟩ := info_parts info3'
  refine wpList_append_lies _ hgd s x 23 ho base 3 i0' _ 1 8 Try.underlying23 hi0 hz0 hz1 hz2 rfl (by decide) TV TL.length (TL.map intV) hs (owns_kept hT.to ((Kept.refl NB W0).alloc _) (fun _ _ h => h)) ⟨W0.heap.size, 0, none⟩ 1 1 [.int .i64 t] hx rfl
    (World.news_of_block (cs := #[.int .i64 t]) (t := 3) (fr := (0, 0)) (heap_alloc_new W0 _)) (by simp [Value.oneCell']) (by decide) (by simp [maxLen]; omega) (by omega) (by have := hK.size; simp; omega) _ rfl ?_
  intro g c wa own gr dj _lt
  obtain ⟨mown, mne⟩ := hT.first gr (dj.imp_right (fun h => h.trans (by simp)))
  exact h g c wa own mown mne ((hK.alloc _).grown gr (fun r hr => .inr (by have := owns_ge hT.to hr; omega)))
theorem app_many {ops : Array Oper} {rest : List Oper} {o : Oper} {a : Act} {Q : Exit → Act → World → Prop} (hgd : o.guard = none) (s x : Operand)
    (ho : o.op = .call { callee := .builtin .append, args := #[s, x], argTypes := #[23, 23] })
    {WB W0 wa : World} {base k : Nat} {d : Nat → Int} {TV MV : Value} {TL ML : List Int} (hT : Tos W0 base k d TV MV TL ML) (hTL : TL.length ≤ 1) (hb : base = WB.heap.size) (t m : Int)
    {n n1 g c : Nat} (hn : n = TL.length) (hn1 : n1 = n + 1) (o1 : wa.ownsRow base 3 1 (.slice (some ⟨g, 0, none⟩) n1 c) n1 (TL.map intV ++ [.int .i64 t])) (o2 : wa.ownsRow base 3 1 MV n (ML.map intV)) (hne : some g ≠ MV.ownBlock) (hK : Kept NB WB wa)
    (good : 0 ≤ t ∧ t < k ∧ m = d t.toNat ∧ 0 ≤ m ∧ m ≤ 1000)
    (hs : a.eval s = MV) (hx : a.eval x = .slice (some ⟨wa.heap.size, 0, none⟩) 1 1)
    (h : ∀ g2 c2 wb, Tos wb base k d (.slice (some ⟨g, 0, none⟩) n1 c) (.slice (some ⟨g2, 0, none⟩) n1 c2) (TL ++ [t]) (ML ++ [m]) → Kept NB WB wb →
      wpList Try.prog ops Q rest (a.put o.dst (.slice (some ⟨g2, 0, none⟩) n1 c2)) wb) : wpList Try.prog ops Q (o :: rest) a (wa.alloc (.cells #[.int .i64 m] 3)) := by
  subst hn hn1
  obtain ⟨i0', hi0, hz0, hz1, hz2⟩ := info_parts info3'
  refine wpList_append_lies _ hgd s x 23 ho base 3 i0' _ 1 8 Try.underlying23 hi0 hz0 hz1 hz2 rfl (by decide) MV TL.length (ML.map intV) hs (owns_kept o2 ((Kept.refl NB wa).alloc _) (fun _ _ h => h)) ⟨wa.heap.size, 0, none⟩ 1 1 [.int .i64 m] hx rfl
    (World.news_of_block (cs := #[.int .i64 m]) (t := 3) (fr := (0, 0)) (heap_alloc_new wa _)) (by simp [Value.oneCell']) (by decide) (by simp [maxLen]; omega) (by omega) (by have := hK.size; simp; omega) _ rfl ?_
  intro g2 c2 wb own gr dj _lt
  exact h g2 c2 wb (hT.second o1 rfl hne own gr (dj.imp_right (fun h => h.trans (by simp))) good) ((hK.alloc _).grown gr (fun r hr => .inr (by have := owns_ge o2 hr; omega)))
end Go.Proofs.Ytdpoobkfhmmbjaa
