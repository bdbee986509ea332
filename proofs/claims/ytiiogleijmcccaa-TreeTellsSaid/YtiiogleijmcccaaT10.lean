/-
  Layer 15: the calls whose answers the document fixes. Conditions: none.
-/
import Derived.Test.YtiiogleijmcccaaT9
namespace Go.Av
open Go.Proofs
set_option maxRecDepth 100000
set_option linter.unusedSimpArgs false
set_option linter.unusedVariables false

def gTr : Gr := ⟨2, 2, 0, [⟨0, [⟨false, 0⟩, ⟨true, 1⟩, ⟨false, 1⟩]⟩, ⟨1, []⟩]⟩

theorem gTr_small : gTr.Small := by
  refine ⟨by decide, fun p hp => ?_⟩
  simp [gTr] at hp
  rcases hp with rfl | rfl <;> decide

theorem gTr1 : replayL gTr [0, 1] = (0, [0, 1]) := by kernel_rfl
theorem gTr2 : nodesL gTr [0, 1] = [(0, [0, 1, 1, 2]), (1, [1])] := by kernel_rfl
theorem gTr3 : replayL gTr [0] = (3, []) := by kernel_rfl
theorem gTr4 : replayL gTr [1] = (2, []) := by kernel_rfl

set_option maxHeartbeats 4000000 in
theorem f54 : PF pg Tq 54 [] (.bool true) := by
  have h1 := f55 gTr gTr_small [0, 1] (by decide)
  have h2 := f57 gTr gTr_small [0, 1] (by decide)
  have h3 := f55 gTr gTr_small [0] (by decide)
  have h4 := f55 gTr gTr_small [1] (by decide)
  rw [gTr1] at h1 h2
  rw [gTr2] at h2
  rw [gTr3] at h3
  rw [gTr4] at h4
  refine Fb ?_
  refine FH.of (N := 82) (rs := #[.tmp 0]) Try.func54 rfl rfl (of_decide_eq_true rfl) rfl (by decide) ?_
  refine W.rseq (k := 1) rfl fun K hK => ?_
  simp only [go_sem]
  refine hK _ _ _ ?_
  clear hK K
  refine W.rseq (k := 10) rfl fun K hK => ?_
  simp only [go_sem, show (0 : Nat) < 2 by omega, show (0 : Nat) < 3 by omega, show ¬ (2 : Nat) = 0 by omega, show ¬ (3 : Nat) = 0 by omega, show ¬ (1 : Nat) = 0 by omega, show (1 : Nat) < 2 by omega, show (0 : Nat) < 1 by omega, show (1 : Nat) < 3 by omega, show (2 : Nat) < 3 by omega]
  refine hK _ _ _ ?_
  first | clear hK K | clear hK | skip
  have F : True := trivial
  refine W.rseq (k := 8) rfl fun K hK => ?_
  simp only [go_sem, show (0 : Nat) < 2 by omega, show ¬ (2 : Nat) = 0 by omega, show (0 : Nat) < 1 by omega, show (1 : Nat) < 2 by omega]
  refine VCall.frzq 20 (by kernel_rfl) h1 ?_
  simp only [go_sem]
  refine hK _ _ _ ?_
  first | clear hK K | clear hK | skip
  refine W.rseq (k := 8) rfl fun K hK => ?_
  simp only [go_sem, show (0 : Nat) < 2 by omega, show ¬ (2 : Nat) = 0 by omega, show (0 : Nat) < 1 by omega, show (1 : Nat) < 2 by omega]
  refine VCall.frzq 20 (by kernel_rfl) h2 ?_
  simp only [go_sem]
  refine hK _ _ _ ?_
  first | clear hK K | clear hK | skip
  refine W.rseq (k := 8) rfl fun K hK => ?_
  simp only [go_sem, show (0 : Nat) < 2 by omega, show ¬ (1 : Nat) = 0 by omega, show (0 : Nat) < 1 by omega, show (1 : Nat) < 2 by omega]
  refine VCall.frzq 20 (by kernel_rfl) h3 ?_
  simp only [go_sem]
  refine hK _ _ _ ?_
  first | clear hK K | clear hK | skip
  refine W.rseq (k := 8) rfl fun K hK => ?_
  simp only [go_sem, show (0 : Nat) < 2 by omega, show ¬ (1 : Nat) = 0 by omega, show (0 : Nat) < 1 by omega, show (1 : Nat) < 2 by omega]
  refine VCall.frzq 20 (by kernel_rfl) h4 ?_
  simp only [go_sem]
  refine hK _ _ _ ?_
  first | clear hK K | clear hK | skip
  refine W.rseq (k := 41) rfl fun K hK => ?_
  simp only [go_sem, show (0 : Nat) < 2 by omega, show ¬ (2 : Nat) = 0 by omega, show (0 : Nat) < 1 by omega, show (1 : Nat) < 2 by omega]
  refine VCall.frzq 20 (by kernel_rfl) (f59 [0, 1] [0, 1] (by decide) (by decide)) ?_
  simp only [go_sem, show (([0, 1] : List Int) == [0, 1]) = true from by kernel_rfl]
  refine VCall.frzt 20 (f61 [(0, [0, 1, 1, 2]), (1, [1])] (by decide)) (by kernel_rfl) ?_
  simp only [go_sem, show (0 : Nat) < 2 by omega, show ¬ (2 : Nat) = 0 by omega, show (0 : Nat) < 1 by omega, show (1 : Nat) < 2 by omega, show (0 : Nat) < 4 by omega, show (1 : Nat) < 4 by omega, show (2 : Nat) < 4 by omega, show (3 : Nat) < 4 by omega, show ¬ (4 : Nat) = 0 by omega, show ¬ (1 : Nat) = 0 by omega]
  refine VCall.frzq 20 (by kernel_rfl) (f60 [(0, [0, 1, 1, 2]), (1, [1])] [(0, [0, 1, 1, 2]), (1, [1])] (by constructor <;> simp) (by constructor <;> simp)) ?_
  simp only [go_sem, show (([(0, [0, 1, 1, 2]), (1, [1])] : List Nd) == [(0, [0, 1, 1, 2]), (1, [1])]) = true from by kernel_rfl, show (0 : Nat) < 2 by omega, show ¬ (2 : Nat) = 0 by omega, show (0 : Nat) < 1 by omega, show (1 : Nat) < 2 by omega, show ¬ (1 : Nat) = 0 by omega]
  refine VCall.frzq 20 (by kernel_rfl) (f62 [0] [0, 0] (by decide) (by decide)) ?_
  simp only [go_sem, show lessL [0] [0, 0] = true from by kernel_rfl, show (0 : Nat) < 2 by omega, show ¬ (2 : Nat) = 0 by omega, show (0 : Nat) < 1 by omega, show (1 : Nat) < 2 by omega, show ¬ (1 : Nat) = 0 by omega]
  refine VCall.frzq 20 (by kernel_rfl) (f62 [1] [0, 5] (by decide) (by decide)) ?_
  simp only [go_sem, show lessL [1] [0, 5] = false from by kernel_rfl]
  refine hK _ _ _ ?_
  first | clear hK K | clear hK | skip
  refine W.ret ?_
  simp only [go_sem]

end Go.Av

