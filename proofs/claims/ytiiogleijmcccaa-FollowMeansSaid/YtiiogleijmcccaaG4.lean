/-
  Layer 12: the calls whose answers the document fixes; FollowTells, FollowClosed. Conditions: none.
-/
import Derived.Test.YtiiogleijmcccaaG3
import Derived.Test.YtiiogleijmcccaaL8
namespace Go.Av
open Go.Proofs
set_option maxRecDepth 100000
set_option linter.unusedSimpArgs false
set_option linter.unusedVariables false

def gFo : Gr := ⟨2, 2, 0, [⟨0, [⟨true, 1⟩, ⟨false, 1⟩]⟩, ⟨1, [⟨false, 0⟩]⟩]⟩

theorem gFo_small : gFo.Small := by
  refine ⟨by decide, fun p hp => ?_⟩
  simp [gFo] at hp
  rcases hp with rfl | rfl <;> decide

theorem gFo_follow : followL gFo = [65536, 2] := by kernel_rfl

theorem f51 : PF pg Tq 51 [] (.bool true) := by
  refine Fb ?_
  refine FH.of (N := 17) (rs := #[.tmp 0]) Try.func51 rfl rfl (of_decide_eq_true rfl) rfl (by decide) ?_
  refine W.rseq (k := 1) rfl fun K hK => ?_
  simp only [go_sem]
  refine hK _ _ _ ?_
  clear hK K
  refine W.rseq (k := 11) rfl fun K hK => ?_
  simp only [go_sem, show (0 : Nat) < 2 by omega, show ¬ (2 : Nat) = 0 by omega, show ¬ (1 : Nat) = 0 by omega, show (1 : Nat) < 2 by omega, show (0 : Nat) < 1 by omega]
  refine hK _ _ _ ?_
  first | clear hK K | clear hK | skip
  have h52 := f52 gFo gFo_small
  rw [gFo_follow] at h52
  refine W.rseq (k := 7) rfl fun K hK => ?_
  simp only [go_sem]
  refine VCall.u3q 20 h52 (by kernel_rfl) ?_
  simp only [go_sem, show (0 : Nat) < 2 by omega, show ¬ (2 : Nat) = 0 by omega, show (0 : Nat) < 1 by omega, show (1 : Nat) < 2 by omega]
  refine VCall.frzq 20 (by kernel_rfl) (f44 [65536, 2] [65536, 2] (by decide) (by decide)) ?_
  simp only [go_sem, show (([65536, 2] : List Nat) == [65536, 2]) = true from by kernel_rfl]
  refine hK _ _ _ ?_
  first | clear hK K | clear hK | skip
  refine W.ret ?_
  simp only [go_sem]

theorem follow_len (g : Gr) : (followL g).length < 2 ^ 40 := by
  cases h : right g
  · simp [followL, h]
  · obtain ⟨⟨_, h1⟩, _⟩ := right_in h
    rw [(follow_fin h).1]; omega

theorem follow_lt (g : Gr) : Lt32 (followL g) := by
  cases h : right g
  · simp [followL, h, Lt32]
  · exact (follow_fin h).2.1

theorem f12 (g : Gr) (hg : g.Small) : FH pg Tq 12 [.agg (eGr g)] h0 0 fun r _ _ => r = .bool true := by
  have hf := follow_len g
  have h53 := OwnSt.pf (f53 g hg)
  rw [followR_eq] at h53
  have h46 := OwnU3.pf (f46 (followL g) (follow_lt g) hf)
  have h52 := OwnU3.pf (f52 g hg)
  refine FH.of (N := 15) (rs := #[.tmp 2]) Try.func12 rfl rfl (of_decide_eq_true rfl) rfl (by decide) ?_
  refine W.rseq (k := 2) rfl fun K hK => ?_
  simp only [go_sem]
  refine hK _ _ _ ?_
  clear hK K
  refine W.seq ?_
  refine W.rseq (k := 2) rfl fun K hK => ?_
  simp only [go_sem]
  refine VCall.frz 6 f51 rfl ?_
  try simp only [go_sem]
  refine hK _ _ _ ?_
  clear hK K
  refine W.condF (by simp only [go_sem]) ?_
  refine W.skip ?_
  simp only [go_sem]
  refine W.dseq (k := 11) rfl fun K hK => ?_
  simp only [go_sem]
  refine VCall.frz 6 (f28 g hg) rfl ?_
  rcases Bool.eq_false_or_eq_true (large g) with hL | hL
  · simp only [go_sem, hL]
    refine hK _ _ _ _ (by kernel_rfl) ?_
    clear hK K
    refine W.ret ?_
    simp only [go_sem]
  simp only [go_sem, hL]
  refine VCall.frzq 6 rfl h52 ?_
  simp only [go_sem]
  refine VCall.frzq 6 rfl h53 ?_
  simp only [go_sem]
  refine VCall.frzq 6 rfl h46 ?_
  simp only [go_sem]
  refine VCall.frzq 6 rfl (f44 (followL g) (followL g) (by omega) (by omega)) ?_
  simp only [go_sem]
  refine hK _ _ _ _ (by kernel_rfl) ?_
  clear hK K
  refine W.ret ?_
  simp only [go_sem, beq_self_eq_true]

end Go.Av

