/-
  Layer 17: by a word's rows the same is told. Conditions: none.
-/
import Derived.Test.YtiiogleijmcccaaZ8
namespace Go.Av
open Go.Proofs
set_option maxRecDepth 100000
set_option linter.unusedSimpArgs false
set_option linter.unusedVariables false

set_option maxHeartbeats 16000000 in
theorem f78 : PF pg Tq 78 [] (.bool true) := by
  have h1 := f81L (w := [0]) (kind := 0) (by decide) (by kernel_rfl) (rowsL rcL1 rowsL0) leadL1
  have h2 := f81L (w := [0]) (kind := 1) (by decide) (by kernel_rfl) (rowsL rcL1 rowsL0) leadL2
  have h3 := f81L (w := [1]) (kind := 2) (by decide) (by kernel_rfl) (rowsL rcL2 rowsL0) leadL3
  have h4 := f81L (w := [0, 0, 0]) (kind := 0) (by decide) (by kernel_rfl) (rowsL rcL4 (rowsL rcL3 (rowsL rcL1 rowsL0))) leadL4
  have h5 := f81L (w := [0]) (kind := 3) (by decide) (by kernel_rfl) (rowsL rcL1 rowsL0) leadL5
  refine Fb ?_
  refine FH.of (N := 90) (rs := #[.tmp 0]) Try.func78 rfl rfl (of_decide_eq_true rfl) rfl (by decide) ?_
  refine W.rseq (k := 1) rfl fun K hK => ?_
  simp only [go_sem]
  refine hK _ _ _ ?_
  clear hK K
  refine W.rseq (k := 3) rfl fun K hK => ?_
  simp only [go_sem]
  refine hK _ _ _ ?_
  clear hK K
  refine W.rseq (k := 15) rfl fun K hK => ?_
  simp only [go_sem, show (0 : Nat) < 2 by omega, show ¬ (2 : Nat) = 0 by omega, show ¬ (1 : Nat) = 0 by omega, show (0 : Nat) < 1 by omega, show ¬ (4 : Nat) = 0 by omega]
  refine hK _ _ _ ?_
  first | clear hK K | clear hK | skip
  refine W.rseq (k := 8) rfl fun K hK => ?_
  simp only [go_sem, show (0 : Nat) < 2 by omega, show ¬ (2 : Nat) = 0 by omega, show ¬ (1 : Nat) = 0 by omega, show (0 : Nat) < 1 by omega]
  refine VCall.frzq 20 (by kernel_rfl) h1 ?_
  simp only [go_sem]
  refine hK _ _ _ ?_
  first | clear hK K | clear hK | skip
  refine W.rseq (k := 8) rfl fun K hK => ?_
  simp only [go_sem, show (0 : Nat) < 2 by omega, show ¬ (2 : Nat) = 0 by omega, show ¬ (1 : Nat) = 0 by omega, show (0 : Nat) < 1 by omega]
  refine VCall.frzq 20 (by kernel_rfl) h2 ?_
  simp only [go_sem]
  refine hK _ _ _ ?_
  first | clear hK K | clear hK | skip
  refine W.rseq (k := 8) rfl fun K hK => ?_
  simp only [go_sem, show (0 : Nat) < 2 by omega, show ¬ (2 : Nat) = 0 by omega, show ¬ (1 : Nat) = 0 by omega, show (0 : Nat) < 1 by omega]
  refine VCall.frzq 20 (by kernel_rfl) h3 ?_
  simp only [go_sem]
  refine hK _ _ _ ?_
  first | clear hK K | clear hK | skip
  refine W.rseq (k := 8) rfl fun K hK => ?_
  simp only [go_sem, show (0 : Nat) < 2 by omega, show ¬ (2 : Nat) = 0 by omega, show ¬ (1 : Nat) = 0 by omega, show (0 : Nat) < 1 by omega, show ¬ (3 : Nat) = 0 by omega]
  refine VCall.frzq 20 (by kernel_rfl) h4 ?_
  simp only [go_sem]
  refine hK _ _ _ ?_
  first | clear hK K | clear hK | skip
  refine W.rseq (k := 8) rfl fun K hK => ?_
  simp only [go_sem, show (0 : Nat) < 2 by omega, show ¬ (2 : Nat) = 0 by omega, show ¬ (1 : Nat) = 0 by omega, show (0 : Nat) < 1 by omega]
  refine VCall.frzq 20 (by kernel_rfl) h5 ?_
  simp only [go_sem]
  refine hK _ _ _ ?_
  first | clear hK K | clear hK | skip
  have q1 : PF pg Tq 59 [.ro (([0, 1, 2] : List Int).map eIn), .ro (([0, 1, 2] : List Int).map eIn)] (.bool true) := f59 [0, 1, 2] [0, 1, 2] (by decide) (by decide)
  have q2 : PF pg Tq 59 [.ro (([0, 2, 1] : List Int).map eIn), .ro (([0, 2, 1] : List Int).map eIn)] (.bool true) := f59 [0, 2, 1] [0, 2, 1] (by decide) (by decide)
  have q3 : PF pg Tq 59 [.ro (([0, 2, 3] : List Int).map eIn), .ro (([0, 2, 3] : List Int).map eIn)] (.bool true) := f59 [0, 2, 3] [0, 2, 3] (by decide) (by decide)
  refine W.rseq (k := 34) rfl fun K hK => ?_
  simp only [go_sem, show (0 : Nat) < 2 by omega, show ¬ (2 : Nat) = 0 by omega, show ¬ (1 : Nat) = 0 by omega, show (0 : Nat) < 1 by omega, show ¬ (3 : Nat) = 0 by omega]
  refine VCall.frzq 20 (by kernel_rfl) q1 ?_
  simp only [go_sem, show ¬ (3 : Nat) = 0 by omega]
  refine VCall.frzq 20 (by kernel_rfl) q2 ?_
  simp only [go_sem, show ¬ (3 : Nat) = 0 by omega]
  refine VCall.frzq 20 (by kernel_rfl) q3 ?_
  simp only [go_sem]
  refine hK _ _ _ ?_
  first | clear hK K | clear hK | skip
  refine W.ret ?_
  simp only [go_sem]

theorem run_len {g : Gr} {w : List Int} {rows : List (Nat → Nat)} {kind : Int} : ∀ (k : Nat) (T : List Lt) (a : Nat) (out : List Int), out.length ≤ 2000 → (runL g w rows kind k T a out).2.length ≤ 2000
  | 0, _, _, _, _ => Nat.zero_le _
  | _ + 1, [], _, _, h => h
  | k + 1, x :: T, a, out, h => by
    cases hx : x.1.non
    · rw [run_term hx]
      exact run_len k _ _ _ h
    · by_cases ho : out.length = 2000
      · rw [run_big hx ho]
        exact Nat.zero_le _
      · cases ht : tryL g w rows kind T a (candL g w kind a x.1.n) with
        | none => rw [run_none hx ho ht]; exact Nat.zero_le _
        | some cL =>
          obtain ⟨c, L⟩ := cL
          rw [run_some hx ho ht]
          exact run_len k _ _ _ (by rw [List.length_append, List.length_singleton]; omega)

theorem by_len {g : Gr} {w : List Int} {kind : Int} {l : List (Nat → Nat)} : (byL g w kind l).2.length ≤ 2000 := by
  unfold byL
  split
  · exact run_len _ _ _ _ (Nat.zero_le _)
  · exact Nat.zero_le _

set_option maxHeartbeats 16000000 in
theorem f26 (g : Gr) (hg : g.Small) (w : List Int) : FH pg Tq 26 [.agg (eGr g), .ro (w.map eIn)] h0 0 fun r _ _ => r = .bool true := by
  refine FH.of (N := 53) (rs := #[.tmp 4]) Try.func26 rfl rfl (of_decide_eq_true rfl) rfl (by decide) ?_
  refine W.rseq (k := 2) rfl fun K hK => ?_
  simp only [go_sem]
  refine hK _ _ _ ?_
  clear hK K
  refine W.seq ?_
  refine W.rseq (k := 2) rfl fun K hK => ?_
  simp only [go_sem]
  refine VCall.frz 6 f78 rfl ?_
  try simp only [go_sem]
  refine hK _ _ _ ?_
  clear hK K
  refine W.condF (by simp only [go_sem]) ?_
  refine W.skip ?_
  simp only [go_sem]
  refine W.seq ?_
  refine W.rseq (k := 9) rfl fun K hK => ?_
  simp only [go_sem]
  refine VCall.frz 6 (f79 g hg w) rfl ?_
  cases hlg : largeS g w with
  | true =>
    simp only [go_sem]
    refine hK _ _ _ ?_
    first | clear hK K | clear hK | skip
    refine W.condT (by simp only [go_sem]) ?_
    refine W.rseq (k := 1) rfl fun K hK => ?_
    simp only [go_sem]
    refine hK _ _ _ ?_
    clear hK K
    refine W.ret ?_
    simp only [go_sem]
  | false =>
    have hw40 := not_largeS hlg
    simp only [go_sem]
    refine VCall.frz 6 (f76 g hg w (by omega)) rfl ?_
    cases hf : fitG g w with
    | false =>
      simp only [go_sem]
      refine hK _ _ _ ?_
      first | clear hK K | clear hK | skip
      refine W.condT (by simp only [go_sem]) ?_
      refine W.rseq (k := 1) rfl fun K hK => ?_
      simp only [go_sem]
      refine hK _ _ _ ?_
      clear hK K
      refine W.ret ?_
      simp only [go_sem]
    | true =>
      simp only [go_sem]
      refine hK _ _ _ ?_
      first | clear hK K | clear hK | skip
      refine W.condF (by simp only [go_sem]) ?_
      refine W.skip ?_
      simp only [go_sem]
      obtain ⟨l, h74, hl0, hl1⟩ := f74 g hg w (by omega)
      have hrc := hl1 hf
      refine W.rseq (k := 4) rfl fun K hK => ?_
      simp only [go_sem]
      refine VCall.frz 6 h74 rfl ?_
      try simp only [go_sem]
      refine hK _ _ _ ?_
      clear hK K
      refine W.seqk fun K hK => ?_
      refine W.rseq (k := 1) rfl fun K hK => ?_
      simp only [go_sem]
      refine hK _ _ _ ?_
      clear hK K
      have nx0 : ∀ (t' : Fr) (h' : Heap) (n' : Nat), K t' h' n' := by
        intro t' h' n'
        refine hK _ _ _ ?_
        clear hK K
        refine W.rseq (k := 1) rfl fun K hK => ?_
        simp only [go_sem]
        refine hK _ _ _ ?_
        clear hK K
        refine W.ret ?_
        simp only [go_sem]
      clear hK
      refine W.block (W.while (fun m t h n => ∃ k : Nat, m = 3 - k ∧ k ≤ 3 ∧ h 0 = some (.cells [eGr g]) ∧ (t 1 = .ro (w.map eIn) ∧ t 2 = .ptr 0 0 0 ∧ t 5 = .ro (l.map eRw)) ∧ t 6 = .int .i64 k ∧ 0 < n) 3
        ⟨0, rfl, by omega, by simp only [go_sem], ⟨rfl, rfl, rfl⟩, rfl, by omega⟩ fun m t h n ⟨k, i1, i2, i3, i4, i5, i6⟩ => ?_)
      have i4' := i4
      obtain ⟨a1, a2, a5⟩ := i4'
      refine W.seq ?_
      refine W.rseq (k := 2) rfl fun K hK => ?_
      simp only [go_sem, i5]
      refine hK _ _ _ ?_
      clear hK K
      refine W.cond rfl (fun hc => ?_) fun hc => ?_
      · refine W.skip ?_
        simp only [go_sem]
        have hk : k < 3 := by simp at hc; omega
        refine W.seqk fun K hK => ?_
        have nx : ∀ (t' : Fr) (h' : Heap) (n' : Nat), h' 0 = some (.cells [eGr g]) → (t' 1 = .ro (w.map eIn) ∧ t' 2 = .ptr 0 0 0 ∧ t' 5 = .ro (l.map eRw)) → t' 6 = .int .i64 k → 0 < n' → K t' h' n' := by
          intro t' h' n' e1 e2 e3 e4
          refine hK _ _ _ ?_
          clear hK K
          refine W.region (k := 3) rfl ?_
          simp only [go_sem, e3]
          refine ⟨3 - (k + 1), by omega, k + 1, rfl, by omega, e1, e2, ?_, by omega⟩
          rw [wrap64 (by omega) (by omega)]; rfl
        clear hK
        have hle : ¬ l = [] := fun e => by have := hrc.1; rw [e] at this; simp at this
        have hw := fit_len hf
        have hll : leadL g w k l = byL g w k l := by rw [leadL, if_neg (fun q => q.elim hle fun q => q.elim (by omega) (by omega))]
        have h81 := f81 g hg w k l h74 hl0 hl1
        have h84 := f84 g hg (fit_good hf) w k l hrc.1 (by have := hrc.1; omega) (rows_in hrc)
        rw [hll] at h81
        obtain ⟨R, hR⟩ : ∃ R, R = byL g w k l := ⟨_, rfl⟩
        have hRl : R.2.length ≤ 2000 := by rw [hR]; exact by_len
        rw [← hR] at h81 h84
        have h59 := f59 R.2 R.2 (by omega) (by omega)
        rw [beq_self_eq_true] at h59
        refine W.block ?_
        refine W.rseq (k := 9) rfl fun K hK => ?_
        simp only [go_sem, a1, a2, i3, i5]
        refine VCall.frz 6 h81 rfl ?_
        try simp only [go_sem, a1, a2, i3, i5]
        refine hK _ _ _ ?_
        clear hK K
        refine W.rseq (k := 10) rfl fun K hK => ?_
        simp only [go_sem, a1, a2, a5, i3, i5]
        refine VCall.frz 6 h84 rfl ?_
        try simp only [go_sem, a1, a2, a5, i3, i5]
        refine hK _ _ _ ?_
        clear hK K
        refine W.rseq (k := 9) rfl fun K hK => ?_
        simp only [go_sem, decide_eq_true]
        refine VCall.frz 6 h59 rfl ?_
        simp only [go_sem]
        refine hK _ _ _ ?_
        first | clear hK K | clear hK | skip
        refine W.condF (by simp only [go_sem]) ?_
        refine W.skip ?_
        simp only [go_sem]
        exact nx _ _ _ i3 i4 i5 (by omega)
      · refine W.exit ?_
        simp only [go_sem]
        exact nx0 _ _ _

end Go.Av

