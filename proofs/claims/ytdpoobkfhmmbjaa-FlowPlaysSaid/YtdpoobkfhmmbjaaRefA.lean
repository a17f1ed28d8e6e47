/- The reference's builder (rhytonref11.Builder) in the model's heap; the walks of lays, opens, upon. -/
import Derived.Test.YtdpoobkfhmmbjaaPair
import Derived.Test.YtdpoobkfhmmbjaaTake
import Derived.Test.YtdpoobkfhmmbjaaFits
namespace Go.Proofs.Ytdpoobkfhmmbjaa
open Go.RowKit
/-- The reference's builder: its blocks of its own are p, and the row of its instructions. -/
structure RefB (w : World) (p : Nat) (vc vp : Value) (code : List I3) (ps : List (Prt × Value)) : Prop where
  own : w.heap[p]? = some (.cells #[vc, vp] 50 (0, 0))
  code : w.ownsRow 0 31 3 vc code.length (codeV code)
  parts : w.ownsRow 0 80 3 vp ps.length (partsV ps)
  gaps : ∀ q ∈ ps, w.ownsRow 0 3 1 q.2 q.1.gaps.length (q.1.gaps.map intV)
theorem RefB.kept {S : Nat → Prop} {w w' : World} {p : Nat} {vc vp : Value} {code : List I3} {ps : List (Prt × Value)} (B : RefB w p vc vp code ps) (K : Kept S w w') (h1 : ¬ S p) (h2 : ∀ k, vc.ownBlock = some k → ¬ S k) (h3 : ∀ k, vp.ownBlock = some k → ¬ S k)
    (h4 : ∀ q ∈ ps, ∀ k, q.2.ownBlock = some k → ¬ S k) : RefB w' p vc vp code ps :=
  ⟨(K.block p (Array.getElem?_eq_some_iff.1 B.own).1 h1).trans B.own, owns_kept B.code K h2, owns_kept B.parts K h3, fun q hq => owns_kept (B.gaps q hq) K (h4 q hq)⟩
def opensB (n : Nat) : Bool := decide (0 < moreOf n)
set_option maxRecDepth 100000 in
theorem lays_any (n : Nat) (h1 : 1 ≤ n) (h2 : n ≤ 17) (w : World) : Calls Try.prog 34 #[.int .i64 (n : Int)] w fun e w' => e = .returned (.int .u8 (laysOf n)) ∧ w = w' := by
  match n, h1, h2 with
  | 1, _, _ | 2, _, _ | 3, _, _ | 4, _, _ | 5, _, _ | 6, _, _ | 7, _, _ | 8, _, _ | 9, _, _ | 10, _, _ | 11, _, _ | 12, _, _ | 13, _, _ | 14, _, _ | 15, _, _ | 16, _, _ | 17, _, _ =>
    go_enter Try.func34, Try.ntmps34
    go_wp2_with fail
    all_goals (first | go_ret | skip)
    all_goals exact ⟨rfl, rfl⟩
  | n + 18, _, h => exact absurd h (by omega)
set_option maxRecDepth 100000 in
theorem opens_any (n : Nat) (h1 : 1 ≤ n) (h2 : n ≤ 17) (w : World) : Calls Try.prog 35 #[.int .i64 (n : Int)] w fun e w' => e = .returned (.bool (opensB n)) ∧ w = w' := by
  match n, h1, h2 with
  | 1, _, _ | 2, _, _ | 3, _, _ | 4, _, _ | 5, _, _ | 6, _, _ | 7, _, _ | 8, _, _ | 9, _, _ | 10, _, _ | 11, _, _ | 12, _, _ | 13, _, _ | 14, _, _ | 15, _, _ | 16, _, _ | 17, _, _ =>
    go_enter Try.func35, Try.ntmps35
    go_wp2_with fail
    all_goals (first | go_ret | skip)
    all_goals exact ⟨rfl, rfl⟩
  | n + 18, _, h => exact absurd h (by omega)
/-- is a part of this kind upon so many others? -/
def uponP (st : List Prt) (kind : Int) (under : Nat) : Bool := match st[under]? with
  | some q => q.kind == kind
  | none => false
set_option maxRecDepth 100000 in
theorem upon_any {w : World} {p : Nat} {vc vp : Value} {code : List I3} {ps : List (Prt × Value)} (B : RefB w p vc vp code ps) (hpl : ps.length < 99) (kind : Int) (under : Nat) (hu : under < 9) :
    Calls Try.prog 62 #[.pointer (some ⟨p, 0, none⟩), .int .i64 kind, .int .i64 (under : Int)] w fun e w' => e = .returned (.bool (uponP (ps.map (·.1)).reverse kind under)) ∧ w = w' := by
  obtain ⟨a, c, rfl, h1, h2, h3⟩ := owns_slice B.parts
  have c1 : w.cell? ⟨p, 1, none⟩ = some (.slice a ps.length c) := by rw [cell_block B.own]; rfl
  by_cases h : under < ps.length
  · obtain ⟨q, hq⟩ : ∃ q, ps[ps.length - 1 - under]? = some q := ⟨_, List.getElem?_eq_getElem (by omega)⟩
    have hup : uponP (ps.map (·.1)).reverse kind under = (q.1.kind == kind) := by
      unfold uponP
      rw [st_get ps under h, hq]
      rfl
    rw [hup]
    obtain ⟨g, rfl, k0, _⟩ := owns_cell B.parts (partsV_get ps _ q hq).1
    obtain ⟨m, hm⟩ : ∃ m, ps.length - 1 - under = m := ⟨_, rfl⟩
    rw [hm] at k0
    have e1 : (ps.length : Int) - 1 - (under : Int) = (m : Int) := by omega
    have e2 : m < ps.length := by omega
    generalize ps.length = n at *
    clear B h3 hq hup hm
    go_enter Try.func62, Try.ntmps62
    go_wp2_with fail
    all_goals (first | go_ret | skip)
    all_goals exact ⟨rfl, rfl⟩
  · have hup : uponP (ps.map (·.1)).reverse kind under = false := by
      unfold uponP
      rw [List.getElem?_eq_none (by simp; omega)]
    rw [hup]
    have e1 : ¬ (0 : Int) ≤ (ps.length : Int) - 1 - (under : Int) := by omega
    generalize ps.length = n at *
    clear B h3 hup
    go_enter Try.func62, Try.ntmps62
    go_wp2_with fail
    all_goals (first | go_ret | skip)
    all_goals exact ⟨rfl, rfl⟩
end Go.Proofs.Ytdpoobkfhmmbjaa
