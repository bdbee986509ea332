/-
  Layer 9's first statement: the walk. Conditions: none.
-/
import Derived.Test.YtiiogleijmcccaaC9
namespace Go.Av
open Go.Proofs
set_option maxRecDepth 100000
set_option linter.unusedSimpArgs false
set_option linter.unusedVariables false

theorem ranksL_len (g : Gr) (terms : Bool) : (ranksL g terms).length < 2 ^ 60 := by
  rw [ranks_same]
  unfold ranksRef
  split
  · rename_i h
    obtain ⟨hn, _⟩ := right_in h
    have : ∀ (f : Nat) (r : Int) (l : List Fc), (iterR g terms f r l).length = l.length := by
      intro f
      induction f with
      | zero => intro r l; rfl
      | succ f ih => intro r l; rw [iterR, ih, nextL_len]
    rw [this]
    simp
    omega
  · simp

theorem f3 (g : Gr) (hg : g.Small) (l : List Fc) (hl : l.length < 2 ^ 60) (terms : Bool) : FH pg Tq 3 [.agg (eGr g), .ro (l.map eFc), .bool terms] h0 0 fun r _ _ => r = .bool true := by
  have e : ∀ t, (ranksL g t == ranksL g t) = true := fun t => by simp
  have e2 : (shows g l terms == shows g l terms) = true := by simp
  have h31 : ∀ t, PF pg Tq 31 [.agg (eGr g), .bool t] (.ro ((ranksL g t).map eFc)) := fun t => by
    have := OwnFc.pf (f31 g hg t)
    rwa [← ranks_same] at this
  refine FH.of (N := 39) (rs := #[.tmp 6]) Try.func3 rfl rfl (of_decide_eq_true rfl) rfl (by decide) ?_
  refine W.rseq (k := 2) rfl fun K hK => ?_
  simp only [go_sem]
  refine hK _ _ _ ?_
  clear hK K
  refine W.seq ?_
  refine W.rseq (k := 2) rfl fun K hK => ?_
  simp only [go_sem]
  refine VCall.frz 6 f27 rfl ?_
  try simp only [go_sem]
  refine hK _ _ _ ?_
  clear hK K
  refine W.condF (by simp only [go_sem]) ?_
  refine W.skip ?_
  simp only [go_sem]
  refine W.seq ?_
  refine W.rseq (k := 7) rfl fun K hK => ?_
  simp only [go_sem]
  refine VCall.frz 6 (f28 g hg) rfl ?_
  cases hL : large g
  · by_cases h100 : (100 : Int) < l.length
    · have h' : decide ((100 : Int) < l.length) = true := by simp [h100]
      simp only [go_sem, h']
      refine hK _ _ _ ?_
      clear hK K
      refine W.condT (by simp only [go_sem]) ?_
      refine W.rseq (k := 1) rfl fun K hK => ?_
      simp only [go_sem]
      refine hK _ _ _ ?_
      clear hK K
      refine W.ret ?_
      simp only [go_sem]
    · have h' : decide ((100 : Int) < l.length) = false := by simp [h100]
      simp only [go_sem, h']
      refine hK _ _ _ ?_
      clear hK K
      refine W.condF (by simp only [go_sem]) ?_
      refine W.skip ?_
      simp only [go_sem]
      refine W.dseq (k := 24) rfl fun K hK => ?_
      simp only [go_sem, e, e2]
      refine VCall.frz 6 (OwnFc.pf (f30 g hg)) rfl ?_
      try simp only [go_sem, e, e2]
      refine VCall.frz 6 (h31 false) rfl ?_
      try simp only [go_sem, e, e2]
      refine VCall.frz 6 (f29 _ _ (ranksL_len g false) (ranksL_len g false)) rfl ?_
      try simp only [go_sem, e, e2]
      refine VCall.frz 6 (OwnFc.pf (f32 g hg)) rfl ?_
      try simp only [go_sem, e, e2]
      refine VCall.frz 6 (h31 true) rfl ?_
      try simp only [go_sem, e, e2]
      refine VCall.frz 6 (f29 _ _ (ranksL_len g true) (ranksL_len g true)) rfl ?_
      try simp only [go_sem, e, e2]
      refine VCall.frz 6 (f33 g hg l hl terms) rfl ?_
      try simp only [go_sem, e, e2]
      refine VCall.frz 6 (f34 g hg l hl terms) rfl ?_
      try simp only [go_sem, e, e2]
      refine hK _ _ _ _ (by kernel_rfl) ?_
      clear hK K
      refine W.ret ?_
      simp only [go_sem]
  · simp only [go_sem]
    refine hK _ _ _ ?_
    clear hK K
    refine W.condT (by simp only [go_sem]) ?_
    refine W.rseq (k := 1) rfl fun K hK => ?_
    simp only [go_sem]
    refine hK _ _ _ ?_
    clear hK K
    refine W.ret ?_
    simp only [go_sem]

end Go.Av

