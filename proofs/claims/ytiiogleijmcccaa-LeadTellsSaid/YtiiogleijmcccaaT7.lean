/-
  Texts T2, T3, T4, T5, T6, T7 of this work, one behind the other. Conditions: none.
-/
import Derived.Test.YtiiogleijmcccaaC15
import Derived.Test.YtiiogleijmcccaaG1

/-
  Layer 15, package tree: the replayer in memory; push, pop, here. Conditions: none.
-/
namespace Go.Av
open Go.Proofs
set_option maxRecDepth 100000
set_option linter.unusedSimpArgs false
set_option linter.unusedVariables false

/-- Whose a block is. -/
abbrev Co := Nat → Option Nat

def CoExt (co co' : Co) (n : Nat) : Prop := ∀ x, x < n → co' x = co x

theorem CoExt.rfl' (co : Co) (n : Nat) : CoExt co co n := fun _ _ => rfl

theorem CoExt.trans {co co' co2 : Co} {n n' : Nat} (h : CoExt co co' n) (k : CoExt co' co2 n') (hn : n ≤ n') : CoExt co co2 n := fun x hx => (k x (by omega)).trans (h x hx)

def setc (co : Co) (b c : Nat) : Co := fun x => if x = b then some c else co x

/-- A slice in a block of this colour, or none. -/
def SlC {α : Type} (e : α → List AV) (sz c : Nat) (co : Co) (h : Heap) (n : Nat) (v : AV) (l : List α) : Prop := (l = [] ∧ v = .nils) ∨ ∃ b, v = .sl b 0 l.length sz ∧ b < n ∧ co b = some c ∧ h b = some (.cells (l.map e))

/-- The same, with old elements behind it; the last one first. -/
def StC {α : Type} (e : α → List AV) (sz c : Nat) (co : Co) (h : Heap) (n : Nat) (v : AV) (l : List α) : Prop := (l = [] ∧ v = .nils) ∨ ∃ b es, v = .sl b 0 l.length sz ∧ b < n ∧ co b = some c ∧ h b = some (.cells es) ∧ l.length ≤ es.length ∧ es.take l.length = l.reverse.map e

/-- Another memory, as far as these colours go. -/
def Frm (c : Nat) (co co' : Co) (h h' : Heap) (n n' : Nat) : Prop := n ≤ n' ∧ CoExt co co' n ∧ ∀ x, x < n → co x = some c → h' x = h x

theorem SlC.next {α : Type} {e : α → List AV} {sz c : Nat} {co co' : Co} {h h' : Heap} {n n' : Nat} {v : AV} {l : List α} (s : SlC e sz c co h n v l) (f : Frm c co co' h h' n n') : SlC e sz c co' h' n' v l := by
  obtain ⟨f1, f2, f3⟩ := f
  rcases s with s | ⟨b, s1, s2, s3, s4⟩
  · exact .inl s
  · exact .inr ⟨b, s1, by omega, (f2 b s2).trans s3, (f3 b s2 s3).trans s4⟩

theorem StC.next {α : Type} {e : α → List AV} {sz c : Nat} {co co' : Co} {h h' : Heap} {n n' : Nat} {v : AV} {l : List α} (s : StC e sz c co h n v l) (f : Frm c co co' h h' n n') : StC e sz c co' h' n' v l := by
  obtain ⟨f1, f2, f3⟩ := f
  rcases s with s | ⟨b, es, s1, s2, s3, s4, s5⟩
  · exact .inl s
  · exact .inr ⟨b, es, s1, by omega, (f2 b s2).trans s3, (f3 b s2 s3).trans s4, s5⟩

def rowN (nodes : List Nd) (av : Nat → AV) : List (List AV) := nodes.zipIdx.map fun x => [.int .i64 x.1.1, av x.2]

/-- The replayer, in memory. -/
structure Mac (bR : Nat) (g : Gr) (co : Co) (h : Heap) (n : Nat) (r : Rs) (tv wv nv : AV) (av : Nat → AV) : Prop where
  root : bR < n ∧ co bR = some 0 ∧ h bR = some (.cells [[.int .i64 g.terms, .int .i64 g.nons, .int .i64 g.start, .ro (g.prods.map ePr), tv, wv, nv]])
  todo : StC ePt 4 1 co h n tv r.todo
  word : SlC eIn 1 2 co h n wv r.word
  nodes : (r.nodes = [] ∧ nv = .nils) ∨ ∃ b, nv = .sl b 0 r.nodes.length 2 ∧ b < n ∧ co b = some 3 ∧ h b = some (.cells (rowN r.nodes av))
  ats : ∀ (i : Nat) (x : Nd), r.nodes[i]? = some x → SlC eIn 1 (4 + i) co h n (av i) x.2

/-- What a call leaves. -/
def MacR (bR : Nat) (g : Gr) (co : Co) (h : Heap) (n : Nat) (r' : Rs) (h' : Heap) (n' : Nat) : Prop :=
  n ≤ n' ∧ (∀ x, x < n → co x = none → h' x = h x) ∧ ∃ co' tv wv nv av, CoExt co co' n ∧ Mac bR g co' h' n' r' tv wv nv av

theorem Mac.next {bR : Nat} {g : Gr} {co co' : Co} {h h' : Heap} {n n' : Nat} {r : Rs} {tv wv nv : AV} {av : Nat → AV} (m : Mac bR g co h n r tv wv nv av) (hn : n ≤ n') (hc : CoExt co co' n) (hh : ∀ x, x < n → co x ≠ none → h' x = h x) : Mac bR g co' h' n' r tv wv nv av := by
  obtain ⟨⟨m1, m2, m3⟩, m4, m5, m6, m7⟩ := m
  have f : ∀ c, Frm c co co' h h' n n' := fun c => ⟨hn, hc, fun x hx e => hh x hx (by rw [e]; simp)⟩
  refine ⟨⟨by omega, (hc _ m1).trans m2, (hh _ m1 (by rw [m2]; simp)).trans m3⟩, m4.next (f _), m5.next (f _), ?_, fun i x hx => (m7 i x hx).next (f _)⟩
  rcases m6 with m6 | ⟨b, k1, k2, k3, k4⟩
  · exact .inl m6
  · exact .inr ⟨b, k1, by omega, (hc b k2).trans k3, (hh b k2 (by rw [k3]; simp)).trans k4⟩

def Rs.push (r : Rs) (p : Pt) : Rs := ⟨p :: r.todo, r.word, r.nodes⟩

end Go.Av

/-
  Layer 15, package tree: pop, here. Conditions: none.
-/
namespace Go.Av
open Go.Proofs
set_option maxRecDepth 100000
set_option linter.unusedSimpArgs false
set_option linter.unusedVariables false

def noP : Pt := ⟨⟨false, 0⟩, 0, false⟩

def popR (bR : Nat) (g : Gr) (co : Co) (h : Heap) (n : Nat) (r : Rs) (res : AV) (h' : Heap) (n' : Nat) : Prop :=
  match r.todo with
  | [] => res = .tup [.agg (ePt noP), .bool false] ∧ MacR bR g co h n r h' n'
  | p :: l => res = .tup [.agg (ePt p), .bool true] ∧ MacR bR g co h n ⟨l, r.word, r.nodes⟩ h' n'

theorem SlC.len {α : Type} {e : α → List AV} {sz c : Nat} {co : Co} {h : Heap} {n : Nat} {v : AV} {l : List α} (s : SlC e sz c co h n v l) : (∀ h' n0, aLen h' n0 v = some (.P, .int .i64 l.length, [])) ∧ ∀ a b p q k z o, lenT ⟨a, b, .slice p q k, z, o⟩ v = true := by
  rcases s with ⟨rfl, rfl⟩ | ⟨b, rfl, _⟩
  · exact ⟨fun _ _ => rfl, fun _ _ _ _ _ _ _ => rfl⟩
  · exact ⟨fun _ _ => rfl, fun _ _ _ _ _ _ _ => rfl⟩

end Go.Av

/-
  Layer 15, package tree: run, open. Conditions: none.
-/
namespace Go.Av
open Go.Proofs
set_option maxRecDepth 100000
set_option linter.unusedSimpArgs false
set_option linter.unusedVariables false

/-- What may be in a replayer, up to a bound. -/
structure Rs.Fine (r : Rs) (B : Nat) : Prop where
  sum : r.todo.length + r.word.length ≤ B
  nodes : r.nodes.length ≤ B
  ats : ∀ x ∈ r.nodes, x.2.length + r.todo.length ≤ B
  parts : ∀ p ∈ r.todo, p.node < r.nodes.length

theorem hereF_len {w : List Int} {ns : List Nd} {p : Pt} : (hereF w ns p).length = ns.length := extN_len

theorem hereF_mem {w : List Int} {ns : List Nd} {p : Pt} {B : Nat} (h : ∀ x ∈ ns, x.2.length + 1 ≤ B) : ∀ x ∈ hereF w ns p, x.2.length ≤ B := by
  intro x hx
  unfold hereF extN at hx
  split at hx
  · obtain ⟨i, hi⟩ := List.mem_iff_getElem?.1 hx
    rw [List.getElem?_modify] at hi
    cases hn : ns[i]? with
    | none => rw [hn] at hi; simp at hi
    | some y =>
      rw [hn] at hi
      have := h y (List.mem_of_getElem? hn)
      simp only [Option.map_eq_map, Option.map_some, Option.some.injEq] at hi
      subst hi
      split
      · simp; omega
      · omega
  · have := h x hx; omega

theorem Rs.Fine.drop {r : Rs} {B : Nat} {p : Pt} {t : List Pt} (h : r.Fine B) (ht : r.todo = p :: t) : (⟨t, r.word, hereF r.word r.nodes p⟩ : Rs).Fine B ∧ ((⟨t, r.word ++ [p.s.n], hereF r.word r.nodes p⟩ : Rs)).Fine B := by
  obtain ⟨h1, h2, h3, h4⟩ := h
  rw [ht] at h1 h3 h4
  simp only [List.length_cons] at h1 h3
  have a : ∀ x ∈ hereF r.word r.nodes p, x.2.length + t.length ≤ B := fun x hx => by
    by_cases hB : t.length ≤ B
    · have := hereF_mem (B := B - t.length) (fun x hx => by have := h3 x hx; omega) x hx
      omega
    · omega
  exact ⟨⟨by simp; omega, by rw [hereF_len]; exact h2, a, fun q hq => by rw [hereF_len]; exact h4 q (by simp [hq])⟩, ⟨by simp; omega, by rw [hereF_len]; exact h2, a, fun q hq => by rw [hereF_len]; exact h4 q (by simp [hq])⟩⟩

def cut (co : Co) (n : Nat) : Co := fun x => if x < n then co x else none

theorem cut_lt {co : Co} {n x : Nat} (h : x < n) : cut co n x = co x := if_pos h
/-- From a beginning to here: what was nobody's is as it was. -/
def Bs (co : Co) (h : Heap) (n : Nat) (co' : Co) (h' : Heap) (n' : Nat) : Prop := n ≤ n' ∧ CoExt co co' n ∧ ∀ x, x < n → co x = none → h' x = h x

theorem Bs.start {co : Co} {h h' : Heap} {n n' : Nat} (hn : n ≤ n') (hh : ∀ x, x < n → h' x = h x) : Bs co h n (cut co n) h' n' := ⟨hn, fun x hx => cut_lt hx, fun x hx _ => hh x hx⟩

def runR (bR : Nat) (g : Gr) (co : Co) (h : Heap) (n : Nat) (r : Rs) (res : AV) (h' : Heap) (n' : Nat) : Prop :=
  res = .tup [.int .i64 ((runF r.todo r.word r.nodes).1.getD 0), .bool (runF r.todo r.word r.nodes).1.isSome] ∧ MacR bR g co h n (runF r.todo r.word r.nodes).2 h' n'

end Go.Av

/-
  Layer 15, package tree: open. Conditions: none.
-/
namespace Go.Av
open Go.Proofs
set_option maxRecDepth 100000
set_option linter.unusedSimpArgs false
set_option linter.unusedVariables false

end Go.Av

/-
  Layer 15, package tree: replay. Conditions: none.
-/
namespace Go.Av
open Go.Proofs
set_option maxRecDepth 100000
set_option linter.unusedSimpArgs false
set_option linter.unusedVariables false

def replR (g : Gr) (l : List Int) (res : AV) (h' : Heap) (n' : Nat) : Prop :=
  ∃ p, res = .tup [p, .int .i64 (replayM g l).1] ∧ ((replayM g l).1 = 0 → ∃ bR co tv wv nv av, p = .ptr bR 0 0 ∧ Mac bR g co h' n' (replayM g l).2 tv wv nv av)

theorem Mac.new {bR : Nat} {g : Gr} {h : Heap} {n : Nat} (hb : bR < n) (hr : h bR = some (.cells [[.int .i64 g.terms, .int .i64 g.nons, .int .i64 g.start, .ro (g.prods.map ePr), .nils, .nils, .nils]])) : Mac bR g (setc (fun _ => none) bR 0) h n ⟨[], [], []⟩ .nils .nils .nils (fun _ => .nils) :=
  ⟨⟨hb, by simp [setc], hr⟩, .inl ⟨rfl, rfl⟩, .inl ⟨rfl, rfl⟩, .inl ⟨rfl, rfl⟩, fun i x h => by simp at h⟩

end Go.Av

/-
  Layer 15, package tree: Replay, Nodes. Conditions: none.
-/
namespace Go.Av
open Go.Proofs
set_option maxRecDepth 100000
set_option linter.unusedSimpArgs false
set_option linter.unusedVariables false

def eNd (x : Nd) : List AV := [.int .i64 x.1, .ro (x.2.map eIn)]
attribute [go_sem] eNd

theorem SlC.frz {α : Type} {e : α → List AV} {sz c : Nat} {co : Co} {fr : Bool} {h : Heap} {n d : Nat} {v : AV} {l : List α} (s : SlC e sz c co h n v l) (he : ∀ x ∈ l, rfs fr d h (e x) = some (e x)) : rf fr (d + 2) h v = some (.ro (l.map e)) := by
  rcases s with ⟨rfl, rfl⟩ | ⟨b, rfl, _, _, s⟩
  · simp [rf]
  · exact rf_sla s (by simp) (rfe_map he)

end Go.Av
