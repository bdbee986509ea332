/-
  Layer 15, the plain law: derivations. Conditions: none.
-/
import Derived.Test.YtiiogleijmcccaaSS
namespace Go.Av
open Go.Proofs
set_option linter.unusedSimpArgs false
set_option linter.unusedVariables false

/-- A symbol that is to be derived, or the end of one that was. -/
structure Pt where
  s : Sy
  node : Int
  fin : Bool

def ePt (p : Pt) : List AV := [.bool p.s.non, .int .i64 p.s.n, .int .i64 p.node, .bool p.fin]
attribute [go_sem] ePt

/-- A production, and places. -/
abbrev Nd := Int × List Int

/-- Where a replay stands. -/
structure Rs where
  todo : List Pt
  word : List Int
  nodes : List Nd

def extN (nd : Int) (ns : List Nd) (pl : List Int) : List Nd := if 0 ≤ nd then ns.modify nd.toNat (fun x => (x.1, x.2 ++ pl)) else ns

def hereF (w : List Int) (ns : List Nd) (p : Pt) : List Nd := extN p.node ns [(w.length : Int)]

def runF : List Pt → List Int → List Nd → Option Int × Rs
  | [], w, ns => (none, ⟨[], w, ns⟩)
  | p :: t, w, ns => if p.fin then runF t w (hereF w ns p) else if p.s.non then (some p.s.n, ⟨t, w, hereF w ns p⟩) else runF t (w ++ [p.s.n]) (hereF w ns p)

def mkP (nd : Int) (s : Sy) : Pt := ⟨s, nd, false⟩
def finP (nd : Int) : Pt := ⟨⟨false, 0⟩, nd, true⟩

def openF (x : Int) (right : List Sy) (r : Rs) : Rs := ⟨right.map (mkP r.nodes.length) ++ finP r.nodes.length :: r.todo, r.word, r.nodes ++ [(x, [])]⟩

/-- The production that takes a nonterminal's place. -/
def okP (g : Gr) (x n : Int) : Option Pr := if 0 ≤ x then (g.prods[x.toNat]?).bind fun p => if p.left = n then some p else none else none

def repM (g : Gr) : List Int → Rs → Int × Rs
  | [], r => match runF r.todo r.word r.nodes with
    | (none, r') => (0, r')
    | (some _, r') => (3, r')
  | x :: l, r => match runF r.todo r.word r.nodes with
    | (none, r') => (2, r')
    | (some n, r') => match okP g x n with
      | some p => repM g l (openF x p.right r')
      | none => (2, r')

def strip : List Sy → List Int → List Sy × List Int
  | [], w => ([], w)
  | s :: r, w => if s.non then (s :: r, w) else strip r (w ++ [s.n])

def repF (g : Gr) : List Int → List Sy → List Int → Int × List Int
  | [], r, w => match strip r w with
    | ([], w') => (0, w')
    | (_ :: _, _) => (3, [])
  | x :: l, r, w => match strip r w with
    | ([], _) => (2, [])
    | (s :: r', w') => match okP g x s.n with
      | some p => repF g l (p.right ++ r') w'
      | none => (2, [])

def rowOf : List Pt → List Sy
  | [] => []
  | p :: t => if p.fin then rowOf t else p.s :: rowOf t

/-- What nodes come of symbols, from a place in the list and in the word on. -/
inductive Bld (g : Gr) (l : List Int) : List Sy → Nat → Nat → List Int → List Nd → Nat → Nat → Prop
  | nil {i at'} : Bld g l [] i at' [] [] i at'
  | term {n r i at' pl ns i' at2} (h : Bld g l r i (at' + 1) pl ns i' at2) : Bld g l (⟨false, n⟩ :: r) i at' ((at' : Int) :: pl) ns i' at2
  | non {n r i at' j p pl1 ns1 i1 at1 pl ns i' at2} (hj : l[i]? = some j) (hp : okP g j n = some p) (h1 : Bld g l p.right (i + 1) at' pl1 ns1 i1 at1) (h2 : Bld g l r i1 at1 pl ns i' at2) :
      Bld g l (⟨true, n⟩ :: r) i at' ((at' : Int) :: pl) ((j, pl1 ++ [(at1 : Int)]) :: ns1 ++ ns) i' at2

theorem Bld.split {g : Gr} {l : List Int} : ∀ (a : List Sy) {b : List Sy} {i at' : Nat} {pl : List Int} {ns : List Nd} {i' at2 : Nat}, Bld g l (a ++ b) i at' pl ns i' at2 →
    ∃ pl1 ns1 i1 at1 pl2 ns2, Bld g l a i at' pl1 ns1 i1 at1 ∧ Bld g l b i1 at1 pl2 ns2 i' at2 ∧ pl = pl1 ++ pl2 ∧ ns = ns1 ++ ns2
  | [], b, i, at', pl, ns, i', at2, h => ⟨[], [], i, at', pl, ns, .nil, h, rfl, rfl⟩
  | ⟨sn, n⟩ :: a, b, i, at', pl, ns, i', at2, h => by
    rw [List.cons_append] at h
    cases h with
    | term h =>
      obtain ⟨pl1, ns1, i1, at1, pl2, ns2, h1, h2, rfl, rfl⟩ := Bld.split a h
      exact ⟨_, _, _, _, _, _, .term h1, h2, rfl, rfl⟩
    | non hj hp h h' =>
      obtain ⟨pl1, ns1, i1, at1, pl2, ns2, h1, h2, rfl, rfl⟩ := Bld.split a h'
      exact ⟨_, _, _, _, _, _, .non hj hp h h1, h2, rfl, by simp⟩

theorem extN_len {nd : Int} {ns : List Nd} {pl : List Int} : (extN nd ns pl).length = ns.length := by
  unfold extN; split <;> simp

theorem strip_non : ∀ {r : List Sy} {w : List Int} {s : Sy} {r' : List Sy} {w' : List Int}, strip r w = (s :: r', w') → s.non = true
  | [], w, s, r', w', h => by cases h
  | x :: r, w, s, r', w', h => by
    rw [strip] at h
    split at h
    · rename_i hx; cases h; exact hx
    · exact strip_non h

theorem okP_some {g : Gr} {x n : Int} {p : Pr} (h : okP g x n = some p) : 0 ≤ x ∧ g.prods[x.toNat]? = some p ∧ p.left = n := by
  unfold okP at h
  split at h
  · rename_i hx
    cases hq : g.prods[x.toNat]? with
    | none => rw [hq] at h; cases h
    | some q =>
      rw [hq] at h
      simp only [Option.bind_some] at h
      split at h
      · rename_i e; cases h; exact ⟨hx, rfl, e⟩
      · cases h
  · cases h

/-- What comes of it is a word of the row. -/
theorem strip_der {g : Gr} {W : List Int} : ∀ {r : List Sy} {w : List Int} {r' : List Sy} {w' : List Int}, strip r w = (r', w') → (∃ u, W = w' ++ u) → Der g W r' w'.length W.length → (∃ u, W = w ++ u) ∧ Der g W r w.length W.length
  | [], w, r', w', h, hu, hd => by cases h; exact ⟨hu, hd⟩
  | ⟨sn, n⟩ :: r, w, r', w', h, hu, hd => by
    rw [strip] at h
    cases sn with
    | true =>
      simp only [if_true] at h
      cases h; exact ⟨hu, hd⟩
    | false =>
      simp only [Bool.false_eq_true, if_false] at h
      obtain ⟨⟨u, e⟩, h'⟩ := strip_der h hu hd
      refine ⟨⟨n :: u, by rw [e]; simp⟩, ?_⟩
      rw [List.length_append] at h'
      exact .term (by rw [e]; simp) h'

theorem rep_der {g : Gr} : ∀ (l : List Int) (r : List Sy) (w W : List Int), repF g l r w = (0, W) → (∃ u, W = w ++ u) ∧ Der g W r w.length W.length
  | [], r, w, W, h => by
    rw [repF] at h
    rcases hs : strip r w with ⟨r', w'⟩
    rw [hs] at h
    cases r' with
    | cons s r' => simp at h
    | nil =>
      simp only [Prod.mk.injEq, true_and] at h
      subst h
      exact strip_der hs ⟨[], by simp⟩ (.nil (Nat.le_refl _))
  | x :: l, r, w, W, h => by
    rw [repF] at h
    rcases hs : strip r w with ⟨r', w'⟩
    rw [hs] at h
    cases r' with
    | nil => simp at h
    | cons s r' =>
      obtain ⟨sn, n⟩ := s
      have hsn : sn = true := strip_non hs
      subst hsn
      simp only at h
      cases hp : okP g x n with
      | none => rw [hp] at h; simp at h
      | some p =>
        rw [hp] at h
        simp only at h
        obtain ⟨hu, hd⟩ := rep_der l _ w' W h
        obtain ⟨b, d1, d2⟩ := hd.split p.right rfl
        obtain ⟨_, hm, rfl⟩ := okP_some hp
        exact strip_der hs hu (.non (List.mem_of_getElem? hm) d1 d2)

theorem rep_err {g : Gr} : ∀ (l : List Int) (r : List Sy) (w : List Int), (repF g l r w).1 = 0 ∨ ((repF g l r w).1 = 2 ∧ (repF g l r w).2 = []) ∨ ((repF g l r w).1 = 3 ∧ (repF g l r w).2 = [])
  | [], r, w => by
    rw [repF]
    rcases strip r w with ⟨r', w'⟩
    cases r' <;> simp
  | x :: l, r, w => by
    rw [repF]
    rcases strip r w with ⟨r', w'⟩
    cases r' with
    | nil => simp
    | cons s r' =>
      simp only
      cases okP g x s.n with
      | none => simp
      | some p => exact rep_err l _ _

/-! The top. -/

def startP (g : Gr) : Pt := mkP (-1) ⟨true, g.start⟩

def replayM (g : Gr) (l : List Int) : Int × Rs := if right g then (if 2000 < l.length then (5, ⟨[], [], []⟩) else repM g l ⟨[startP g], [], []⟩) else (1, ⟨[], [], []⟩)

/-- The word; the nodes. -/
def replayL (g : Gr) (l : List Int) : Int × List Int := if right g then (if 2000 < l.length then (5, []) else repF g l [⟨true, g.start⟩] []) else (1, [])

def nodesL (g : Gr) (l : List Int) : List Nd := if (replayM g l).1 = 0 then (replayM g l).2.nodes else []

/-! Ahead. -/

def lessL : List Int → List Int → Bool
  | _, [] => false
  | [], _ :: _ => true
  | a :: xs, b :: bs => if a = b then lessL xs bs else decide (a < b)

theorem less_total : ∀ {a b : List Int}, a ≠ b → lessL a b = true ∨ lessL b a = true
  | [], [], h => absurd rfl h
  | [], _ :: _, _ => .inl rfl
  | _ :: _, [], _ => .inr rfl
  | a :: xs, b :: bs, h => by
    rw [lessL, lessL]
    by_cases e : a = b
    · rw [if_pos e, if_pos e.symm]
      subst e
      exact less_total fun e => h (by rw [e])
    · rw [if_neg e, if_neg (Ne.symm e)]
      simp only [decide_eq_true_eq]
      omega

end Go.Av
