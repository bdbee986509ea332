/-
  Texts T10, T11 of this work, one behind the other. Conditions: none.
-/
import Derived.Test.YtiiogleijmcccaaT9
import Derived.Test.YtiiogleijmcccaaL6

/-
  Layer 15: the calls whose answers the document fixes. Conditions: none.
-/
namespace Go.Av
open Go.Proofs
set_option maxRecDepth 100000
set_option linter.unusedSimpArgs false
set_option linter.unusedVariables false

def gTr : Gr := ⟨2, 2, 0, [⟨0, [⟨false, 0⟩, ⟨true, 1⟩, ⟨false, 1⟩]⟩, ⟨1, []⟩]⟩

end Go.Av

/-
  Layer 15's statements TreeComes, TreeApart: the walks. Conditions: none.
-/
namespace Go.Av
open Go.Proofs
set_option maxRecDepth 100000
set_option linter.unusedSimpArgs false
set_option linter.unusedVariables false

theorem replay_err {g : Gr} {l : List Int} (h : (replayL g l).1 ≠ 0) : (replayL g l).2 = [] := by
  unfold replayL at h ⊢
  split
  · rename_i hr
    rw [if_pos hr] at h
    split
    · rfl
    · rename_i h2
      rw [if_neg h2] at h
      rcases rep_err (g := g) l [⟨true, g.start⟩] [] with h1 | ⟨_, h1⟩ | ⟨_, h1⟩
      · exact absurd h1 h
      · exact h1
      · exact h1
  · rfl

theorem replay_ok {g : Gr} {l : List Int} (h : (replayL g l).1 = 0) : right g = true ∧ l.length ≤ 2000 ∧ repF g l [⟨true, g.start⟩] [] = (0, (replayL g l).2) := by
  unfold replayL at h ⊢
  split
  · rename_i hr
    rw [if_pos hr] at h
    split
    · rename_i h2; rw [if_pos h2] at h; cases h
    · rename_i h2
      rw [if_neg h2] at h
      exact ⟨hr, by omega, by rw [← h]⟩
  · rename_i hr; rw [if_neg hr] at h; cases h

end Go.Av
