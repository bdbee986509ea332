/-
  Layer 11, the document's answer: First, round by round. Conditions: none.
-/
import Derived.Test.YtiiogleijmcccaaF7
namespace Go.Av
open Go.Proofs
set_option maxRecDepth 100000
set_option linter.unusedSimpArgs false
set_option linter.unusedVariables false

def addR (null : List Fc) (s : List Nat) (p : Pr) : List Nat := s.set p.left.toNat (addF null s p)

def roundF (g : Gr) (null : List Fc) (s : List Nat) : List Nat := g.prods.foldl (addR null) s

def roundsF (g : Gr) (null : List Fc) : Nat → List Nat → List Nat
  | 0, s => s
  | k + 1, s => roundsF g null k (roundF g null s)

def firstR (g : Gr) : List Nat := if right g then roundsF g (ranksL g false) (g.nons.toNat + 1) (List.replicate g.nons.toNat 0) else []

/-- Rows of bools in a block of their own, or none. -/
def OwnSt (l : List Nat) (r : AV) (h : Heap) : Prop := (l = [] ∧ (r = .nils ∨ r = .ro [])) ∨ ∃ b, r = .sl b 0 l.length 32 ∧ h b = some (.cells (l.map eSt))

theorem rf_sts {fr : Bool} {d : Nat} {h : Heap} {b : Nat} {l : List Nat} (hb : h b = some (.cells (l.map eSt))) : rf fr (d + 4) h (.sl b 0 l.length 32) = some (.ro (l.map eSt)) := rf_sla hb (by simp) rfe_st

theorem OwnSt.pf {f : FuncId} {args : List AV} {l : List Nat} (h : FH pg Tq f args h0 0 fun r h _ => OwnSt l r h) : PF pg Tq f args (.ro (l.map eSt)) := by
  obtain ⟨r, h', n', hb, ho⟩ := h
  refine ⟨r, h', n', hb, 4, fun fr => ?_⟩
  rcases ho with ⟨rfl, rfl | rfl⟩ | ⟨b, rfl, hh⟩
  · simp [rf]
  · simp [rf]
  · exact rf_sts hh

theorem addR_len {null : List Fc} {s : List Nat} {p : Pr} : (addR null s p).length = s.length := by simp [addR]

theorem foldA_len {null : List Fc} : ∀ (ps : List Pr) (s : List Nat), (ps.foldl (addR null) s).length = s.length
  | [], s => rfl
  | p :: ps, s => by rw [List.foldl_cons, foldA_len ps, addR_len]

end Go.Av

