/-
  Layer 15, the plain law: derivations. Conditions: none.
-/
import Derived.Test.YtiiogleijmcccaaSS
namespace Go.Av
open Go.Proofs
set_option linter.unusedSimpArgs false
set_option linter.unusedVariables false

/-- A symbol that is to be derived, or the end of one that was. -/
structure Pt where
  s : Sy
  node : Int
  fin : Bool

def ePt (p : Pt) : List AV := [.bool p.s.non, .int .i64 p.s.n, .int .i64 p.node, .bool p.fin]
attribute [go_sem] ePt

/-- A production, and places. -/
abbrev Nd := Int × List Int

/-- Where a replay stands. -/
structure Rs where
  todo : List Pt
  word : List Int
  nodes : List Nd

def extN (nd : Int) (ns : List Nd) (pl : List Int) : List Nd := if 0 ≤ nd then ns.modify nd.toNat (fun x => (x.1, x.2 ++ pl)) else ns

def hereF (w : List Int) (ns : List Nd) (p : Pt) : List Nd := extN p.node ns [(w.length : Int)]

def runF : List Pt → List Int → List Nd → Option Int × Rs
  | [], w, ns => (none, ⟨[], w, ns⟩)
  | p :: t, w, ns => if p.fin then runF t w (hereF w ns p) else if p.s.non then (some p.s.n, ⟨t, w, hereF w ns p⟩) else runF t (w ++ [p.s.n]) (hereF w ns p)

def mkP (nd : Int) (s : Sy) : Pt := ⟨s, nd, false⟩
def finP (nd : Int) : Pt := ⟨⟨false, 0⟩, nd, true⟩

def openF (x : Int) (right : List Sy) (r : Rs) : Rs := ⟨right.map (mkP r.nodes.length) ++ finP r.nodes.length :: r.todo, r.word, r.nodes ++ [(x, [])]⟩

/-- The production that takes a nonterminal's place. -/
def okP (g : Gr) (x n : Int) : Option Pr := if 0 ≤ x then (g.prods[x.toNat]?).bind fun p => if p.left = n then some p else none else none

def repM (g : Gr) : List Int → Rs → Int × Rs
  | [], r => match runF r.todo r.word r.nodes with
    | (none, r') => (0, r')
    | (some _, r') => (3, r')
  | x :: l, r => match runF r.todo r.word r.nodes with
    | (none, r') => (2, r')
    | (some n, r') => match okP g x n with
      | some p => repM g l (openF x p.right r')
      | none => (2, r')

def strip : List Sy → List Int → List Sy × List Int
  | [], w => ([], w)
  | s :: r, w => if s.non then (s :: r, w) else strip r (w ++ [s.n])

def repF (g : Gr) : List Int → List Sy → List Int → Int × List Int
  | [], r, w => match strip r w with
    | ([], w') => (0, w')
    | (_ :: _, _) => (3, [])
  | x :: l, r, w => match strip r w with
    | ([], _) => (2, [])
    | (s :: r', w') => match okP g x s.n with
      | some p => repF g l (p.right ++ r') w'
      | none => (2, [])

def rowOf : List Pt → List Sy
  | [] => []
  | p :: t => if p.fin then rowOf t else p.s :: rowOf t

/-- What nodes come of symbols, from a place in the list and in the word on. -/
inductive Bld (g : Gr) (l : List Int) : List Sy → Nat → Nat → List Int → List Nd → Nat → Nat → Prop
  | nil {i at'} : Bld g l [] i at' [] [] i at'
  | term {n r i at' pl ns i' at2} (h : Bld g l r i (at' + 1) pl ns i' at2) : Bld g l (⟨false, n⟩ :: r) i at' ((at' : Int) :: pl) ns i' at2
  | non {n r i at' j p pl1 ns1 i1 at1 pl ns i' at2} (hj : l[i]? = some j) (hp : okP g j n = some p) (h1 : Bld g l p.right (i + 1) at' pl1 ns1 i1 at1) (h2 : Bld g l r i1 at1 pl ns i' at2) :
      Bld g l (⟨true, n⟩ :: r) i at' ((at' : Int) :: pl) ((j, pl1 ++ [(at1 : Int)]) :: ns1 ++ ns) i' at2

theorem Bld.split {g : Gr} {l : List Int} : ∀ (a : List Sy) {b : List Sy} {i at' : Nat} {pl : List Int} {ns : List Nd} {i' at2 : Nat}, Bld g l (a ++ b) i at' pl ns i' at2 →
    ∃ pl1 ns1 i1 at1 pl2 ns2, Bld g l a i at' pl1 ns1 i1 at1 ∧ Bld g l b i1 at1 pl2 ns2 i' at2 ∧ pl = pl1 ++ pl2 ∧ ns = ns1 ++ ns2
  | [], b, i, at', pl, ns, i', at2, h => ⟨[], [], i, at', pl, ns, .nil, h, rfl, rfl⟩
  | ⟨sn, n⟩ :: a, b, i, at', pl, ns, i', at2, h => by
    rw [List.cons_append] at h
    cases h with
    | term h =>
      obtain ⟨pl1, ns1, i1, at1, pl2, ns2, h1, h2, rfl, rfl⟩ := Bld.split a h
      exact ⟨_, _, _, _, _, _, .term h1, h2, rfl, rfl⟩
    | non hj hp h h' =>
      obtain ⟨pl1, ns1, i1, at1, pl2, ns2, h1, h2, rfl, rfl⟩ := Bld.split a h'
      exact ⟨_, _, _, _, _, _, .non hj hp h h1, h2, rfl, by simp⟩

theorem extN_len {nd : Int} {ns : List Nd} {pl : List Int} : (extN nd ns pl).length = ns.length := by
  unfold extN; split <;> simp

/-! The top. -/

def startP (g : Gr) : Pt := mkP (-1) ⟨true, g.start⟩

def replayM (g : Gr) (l : List Int) : Int × Rs := if right g then (if 2000 < l.length then (5, ⟨[], [], []⟩) else repM g l ⟨[startP g], [], []⟩) else (1, ⟨[], [], []⟩)

/-- The word; the nodes. -/
def replayL (g : Gr) (l : List Int) : Int × List Int := if right g then (if 2000 < l.length then (5, []) else repF g l [⟨true, g.start⟩] []) else (1, [])

def nodesL (g : Gr) (l : List Int) : List Nd := if (replayM g l).1 = 0 then (replayM g l).2.nodes else []

/-! Ahead. -/

def lessL : List Int → List Int → Bool
  | _, [] => false
  | [], _ :: _ => true
  | a :: xs, b :: bs => if a = b then lessL xs bs else decide (a < b)

end Go.Av
