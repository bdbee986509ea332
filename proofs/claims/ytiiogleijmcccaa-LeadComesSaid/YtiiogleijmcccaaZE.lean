/-
  Layer 17: no derivation stands ahead of the least one, or behind the greatest. Conditions: none.
-/
import Derived.Test.YtiiogleijmcccaaZC
import Derived.Test.YtiiogleijmcccaaZ9
import Derived.Test.YtiiogleijmcccaaT13
namespace Go.Av
open Go.Proofs
set_option maxRecDepth 100000
set_option linter.unusedSimpArgs false
set_option linter.unusedVariables false

theorem lead_by {g : Gr} {w : List Int} {l : List (Nat → Nat)} (h : RowsC g w l) {kind : Int} (h0 : 0 ≤ kind) (h2 : kind ≤ 2) : leadL g w kind l = byL g w kind l := by
  have hle : ¬ l = [] := fun e => by have := h.1; rw [e] at this; simp at this
  rw [leadL, if_neg (fun q => q.elim hle fun q => q.elim (by omega) (by omega))]

theorem replay_rep {g : Gr} (hr : right g = true) {l : List Int} (hl : l.length ≤ 2000) : replayL g l = repF g l [⟨true, g.start⟩] [] := by
  rw [replayL, if_pos hr, if_neg (by omega)]

end Go.Av

