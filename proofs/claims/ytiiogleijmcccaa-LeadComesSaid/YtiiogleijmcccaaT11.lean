/-
  Texts T10, T11 of this work, one behind the other. Conditions: none.
-/
import Derived.Test.YtiiogleijmcccaaT9
import Derived.Test.YtiiogleijmcccaaL6

/-
  Layer 15: the calls whose answers the document fixes. Conditions: none.
-/
namespace Go.Av
open Go.Proofs
set_option maxRecDepth 100000
set_option linter.unusedSimpArgs false
set_option linter.unusedVariables false

def gTr : Gr := ⟨2, 2, 0, [⟨0, [⟨false, 0⟩, ⟨true, 1⟩, ⟨false, 1⟩]⟩, ⟨1, []⟩]⟩

end Go.Av

/-
  Layer 15's statements TreeComes, TreeApart: the walks. Conditions: none.
-/
namespace Go.Av
open Go.Proofs
set_option maxRecDepth 100000
set_option linter.unusedSimpArgs false
set_option linter.unusedVariables false

theorem f64 (g : Gr) (hg : g.Small) (hd : g.Dom) (hs : 0 ≤ g.start ∧ g.start < g.nons) (w : List Int) (hw : w.length < 2 ^ 30) : PF pg Tq 64 [.agg (eGr g), .ro (w.map eIn)] (.bool (spanF g w g.start.toNat 0 w.length)) := by
  obtain ⟨σ, hσ⟩ : ∃ σ : Nat, g.start = σ := ⟨g.start.toNat, by omega⟩
  obtain ⟨M, hM⟩ : ∃ M, M = g.nons.toNat := ⟨_, rfl⟩
  have h36 := f36 g hg hd w hw
  rw [← hM] at h36
  have hσM : σ < M := by omega
  have e1 := e3_get (n := M) (m := w.length + 1) (k := w.length + 1) (f := spanF g w) hσM
  have e2 := e2_get (m := w.length + 1) (k := w.length + 1) (f := spanF g w σ) (show 0 < w.length + 1 by omega)
  have e3 := e1_get (k := w.length + 1) (j := w.length) (f := spanF g w σ 0) (by omega)
  refine Fb ?_
  refine FH.of (N := 18) (rs := #[.tmp 4]) Try.func64 rfl rfl (of_decide_eq_true rfl) rfl (by decide) ?_
  refine W.rseq (k := 2) rfl fun K hK => ?_
  simp only [go_sem]
  refine hK _ _ _ ?_
  clear hK K
  refine W.dseq (k := 14) rfl fun K hK => ?_
  simp only [go_sem]
  refine VCall.frz 6 h36 rfl ?_
  simp only [go_sem, hσ, e1, e2, e3]
  refine hK _ _ _ _ (by kernel_rfl) ?_
  clear hK K
  refine W.ret ?_
  simp only [go_sem]
  rw [hσ, Int.toNat_natCast]

end Go.Av
