/-
  Layer 17: a derivation of any kind, or why there is none, is as the document says. Conditions: none.
-/
import Derived.Test.YtiiogleijmcccaaZJ
import Derived.Test.YtiiogleijmcccaaZ9
namespace Go.Av
open Go.Proofs
set_option maxRecDepth 100000
set_option linter.unusedSimpArgs false
set_option linter.unusedVariables false

theorem lead_len {g : Gr} {w : List Int} {kind : Int} {l : List (Nat → Nat)} : (leadL g w kind l).2.length ≤ 2000 := by
  unfold leadL
  split
  · exact Nat.zero_le _
  · exact by_len

set_option maxHeartbeats 16000000 in
theorem f23 (g : Gr) (hg : g.Small) (w : List Int) (kind : Int) : FH pg Tq 23 [.agg (eGr g), .ro (w.map eIn), .int .i64 kind] h0 0 fun r _ _ => r = .bool true := by
  refine FH.of (N := 47) (rs := #[.tmp 6]) Try.func23 rfl rfl (of_decide_eq_true rfl) rfl (by decide) ?_
  refine W.rseq (k := 2) rfl fun K hK => ?_
  simp only [go_sem]
  refine hK _ _ _ ?_
  clear hK K
  refine W.seq ?_
  refine W.rseq (k := 2) rfl fun K hK => ?_
  simp only [go_sem]
  refine VCall.frz 6 f78 rfl ?_
  try simp only [go_sem]
  refine hK _ _ _ ?_
  clear hK K
  refine W.condF (by simp only [go_sem]) ?_
  refine W.skip ?_
  simp only [go_sem]
  refine W.seq ?_
  refine W.rseq (k := 12) rfl fun K hK => ?_
  simp only [go_sem]
  refine VCall.frz 6 (f79 g hg w) rfl ?_
  cases hlg : largeS g w with
  | true =>
    simp only [go_sem]
    refine hK _ _ _ ?_
    first | clear hK K | clear hK | skip
    refine W.condT (by simp only [go_sem]) ?_
    refine W.rseq (k := 1) rfl fun K hK => ?_
    simp only [go_sem]
    refine hK _ _ _ ?_
    clear hK K
    refine W.ret ?_
    simp only [go_sem]
  | false =>
    have hw40 := not_largeS hlg
    obtain ⟨l, h74, hl0, hl1⟩ := f74 g hg w (by omega)
    have h81 := f81 g hg w kind l h74 hl0 hl1
    have h82 := f82 g hg w (by omega) kind l hl0 hl1
    have hRl := lead_len (g := g) (w := w) (kind := kind) (l := l)
    obtain ⟨R, hR⟩ : ∃ R, R = leadL g w kind l := ⟨_, rfl⟩
    rw [← hR] at h81 h82 hRl
    have h59 := f59 R.2 R.2 (by omega) (by omega)
    rw [beq_self_eq_true] at h59
    simp only [go_sem]
    refine VCall.frz 6 (f76 g hg w (by omega)) rfl ?_
    cases hf : fitG g w with
    | false =>
      simp only [go_sem]
      refine hK _ _ _ ?_
      first | clear hK K | clear hK | skip
      refine W.condF (by simp only [go_sem]) ?_
      refine W.skip ?_
      simp only [go_sem]
      refine W.rseq (k := 9) rfl fun K hK => ?_
      simp only [go_sem]
      refine VCall.frz 6 h81 rfl ?_
      try simp only [go_sem]
      refine hK _ _ _ ?_
      clear hK K
      refine W.rseq (k := 9) rfl fun K hK => ?_
      simp only [go_sem]
      refine VCall.frz 6 h82 rfl ?_
      try simp only [go_sem]
      refine hK _ _ _ ?_
      clear hK K
      refine W.rseq (k := 9) rfl fun K hK => ?_
      simp only [go_sem]
      refine VCall.frz 6 h59 rfl ?_
      simp only [go_sem, decide_eq_true]
      refine hK _ _ _ ?_
      first | clear hK K | clear hK | skip
      refine W.ret ?_
      simp only [go_sem]
    | true =>
      obtain ⟨c, hc⟩ := f80 g hg (fit_good hf)
      simp only [go_sem]
      refine VCall.frz 6 hc rfl ?_
      cases c with
      | true =>
        simp only [go_sem]
        refine hK _ _ _ ?_
        first | clear hK K | clear hK | skip
        refine W.condT (by simp only [go_sem]) ?_
        refine W.rseq (k := 1) rfl fun K hK => ?_
        simp only [go_sem]
        refine hK _ _ _ ?_
        clear hK K
        refine W.ret ?_
        simp only [go_sem]
      | false =>
        simp only [go_sem]
        refine hK _ _ _ ?_
        first | clear hK K | clear hK | skip
        refine W.condF (by simp only [go_sem]) ?_
        refine W.skip ?_
        simp only [go_sem]
        refine W.rseq (k := 9) rfl fun K hK => ?_
        simp only [go_sem]
        refine VCall.frz 6 h81 rfl ?_
        try simp only [go_sem]
        refine hK _ _ _ ?_
        clear hK K
        refine W.rseq (k := 9) rfl fun K hK => ?_
        simp only [go_sem]
        refine VCall.frz 6 h82 rfl ?_
        try simp only [go_sem]
        refine hK _ _ _ ?_
        clear hK K
        refine W.rseq (k := 9) rfl fun K hK => ?_
        simp only [go_sem]
        refine VCall.frz 6 h59 rfl ?_
        simp only [go_sem, decide_eq_true]
        refine hK _ _ _ ?_
        first | clear hK K | clear hK | skip
        refine W.ret ?_
        simp only [go_sem]

end Go.Av

