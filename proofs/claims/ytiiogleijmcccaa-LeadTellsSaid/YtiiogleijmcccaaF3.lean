/-
  Layer 11, package first: First. Conditions: none.
-/
import Derived.Test.YtiiogleijmcccaaF2
import Derived.Test.YtiiogleijmcccaaSS
import Derived.Test.YtiiogleijmcccaaC11
namespace Go.Av
open Go.Proofs
set_option maxRecDepth 100000
set_option linter.unusedSimpArgs false
set_option linter.unusedVariables false

theorem rfe_u3 {fr : Bool} {d : Nat} {h : Heap} {l : List Nat} : rfe fr (d + 3) h (l.map eU3) = some (l.map eU3) := rfe_map fun x _ => by simp [rfs, rf, eU3]

theorem rf_u3 {fr : Bool} {d : Nat} {h : Heap} {b : Nat} {l : List Nat} (hb : h b = some (.cells (l.map eU3))) : rf fr (d + 4) h (.sl b 0 l.length 1) = some (.ro (l.map eU3)) := rf_sla hb (by simp) rfe_u3

/-- Numbers in a block of their own, or none. -/
def OwnU3 (l : List Nat) (r : AV) (h : Heap) : Prop := (l = [] ∧ (r = .nils ∨ r = .ro [])) ∨ ∃ b, r = .sl b 0 l.length 1 ∧ h b = some (.cells (l.map eU3))

theorem OwnU3.pf {f : FuncId} {args : List AV} {l : List Nat} (h : FH pg Tq f args h0 0 fun r h _ => OwnU3 l r h) : PF pg Tq f args (.ro (l.map eU3)) := by
  obtain ⟨r, h', n', hb, ho⟩ := h
  refine ⟨r, h', n', hb, 4, fun fr => ?_⟩
  rcases ho with ⟨rfl, rfl | rfl⟩ | ⟨b, rfl, hh⟩
  · simp [rf]
  · simp [rf]
  · exact rf_u3 hh

end Go.Av

