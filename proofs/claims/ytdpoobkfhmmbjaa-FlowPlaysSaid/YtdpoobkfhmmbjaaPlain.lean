/- The plain state of a flow.Builder: its code, and its open parts, the uppermost first; what each word does to it. -/
import Derived.Test.YtdpoobkfhmmbjaaLib
namespace Go.Proofs.Ytdpoobkfhmmbjaa
open Go.RowKit
def setA (c : List I3) (i : Nat) (v : Int) : List I3 := c.modify i (fun x => (x.1, v, x.2.2))
def closeG (c : List I3) (gs : List Int) : List I3 := gs.foldl (fun c g => setA c g.toNat c.length) c
abbrev St := List I3 × List Prt
def addGap (n : Int) : List Prt → List Prt
  | [] => []
  | q :: st => if q.kind = 2 then ⟨q.kind, q.at_, q.gaps ++ [n]⟩ :: st else q :: addGap n st
/-- what a word asks for, lays, and whether one part more is open then -/
def asksOf (n : Nat) : List Int := ([[], [], [0], [0], [], [1], [1, 0], [1], [1], [], [], [2], [2], [], [], [3], [4, 3], [3]] : List (List Int)).getD n []
def laysOf (n : Nat) : Int := ([0, 4, 3, 0, 0, 4, 3, 4, 3, 5, 6, 7, 8, 9, 0, 10, 3, 11] : List Int).getD n 0
def moreOf (n : Nat) : Int := ([0, 1, 0, 0, 1, 1, 0, 0, 0, 1, 1, 0, 0, 0, 1, 1, 0, 0] : List Int).getD n 0
def fitsS (st : List Prt) : List Int → Bool
  | [] => true
  | k :: ks => match st with
    | [] => false
    | q :: r => q.kind == k && fitsS r ks
def hasLoop (st : List Prt) : Bool := st.any (fun q => q.kind == 2)
/-- what a word does, at the place of what it laid -/
def actS (n : Nat) (at_ : Int) (s : St) : St :=
  match n, s with
  | 1, (c, st) => (c, ⟨0, at_, []⟩ :: st)
  | 2, (c, q :: st) => (setA c q.at_.toNat c.length, ⟨0, at_, []⟩ :: st)
  | 3, (c, q :: st) => (setA c q.at_.toNat c.length, st)
  | 4, (c, st) => (c, ⟨1, at_, []⟩ :: st)
  | 5, (c, q :: st) => (c, q :: ⟨0, at_, []⟩ :: st)
  | 6, (c, q :: q2 :: st) => (setA (setA c at_.toNat q.at_) q2.at_.toNat c.length, st)
  | 7, (c, q :: st) => (setA c at_.toNat q.at_, st)
  | 8, (c, q :: st) => (setA c at_.toNat q.at_, st)
  | 9, (c, st) => (c, ⟨2, at_ + 1, []⟩ :: st)
  | 10, (c, st) => (c, ⟨2, at_ + 1, [at_]⟩ :: st)
  | 11, (c, q :: st) => (closeG (setA c at_.toNat q.at_) q.gaps, st)
  | 12, (c, q :: st) => (closeG (setA c at_.toNat q.at_) q.gaps, st)
  | 13, (c, st) => (c, addGap at_ st)
  | 14, (c, st) => (c, ⟨3, at_, []⟩ :: st)
  | 15, (c, st) => (c, ⟨4, at_, []⟩ :: st)
  | 16, (c, q :: q2 :: st) => (setA c q.at_.toNat c.length, ⟨q2.kind, q2.at_, q2.gaps ++ [at_]⟩ :: st)
  | 17, (c, q :: st) => (closeG c q.gaps, st)
  | _, s => s
/-- What 'Do' answers: 0, 1 (no such word), -22 (no such parts), -8 (no room). -/
def ansS (n : Int) (s : St) : Int :=
  if 1 ≤ n ∧ n ≤ 17 then
    if !fitsS s.2 (asksOf n.toNat) || (n == 13 && !hasLoop s.2) then -22
    else if (laysOf n.toNat != 0 && decide (499 ≤ s.1.length)) || (decide (0 < moreOf n.toNat) && decide (32 ≤ s.2.length)) then -8
    else 0
  else 1
def laidS (n : Nat) (c : List I3) : List I3 := if laysOf n = 0 then c else c ++ [(laysOf n, 0, 0)]
def doS (n : Int) (s : St) : St := if ansS n s = 0 then actS n.toNat s.1.length (laidS n.toNat s.1, s.2) else s
/-- all places that are kept lie in the code -/
def WfP (len : Nat) (q : Prt) : Prop := 0 ≤ q.at_ ∧ q.at_ < 1000 ∧ ((q.kind = 0 ∨ q.kind = 4) → q.at_ < len) ∧ (∀ g ∈ q.gaps, 0 ≤ g ∧ g < len) ∧ q.gaps.length ≤ len
structure Wf (s : St) : Prop where
  len : s.1.length ≤ 499
  parts : ∀ q ∈ s.2, WfP s.1.length q
end Go.Proofs.Ytdpoobkfhmmbjaa
