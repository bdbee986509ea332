/-
  Layer 14: the document's answer to soundness; they say the same. Conditions: none.
-/
import Derived.Test.YtiiogleijmcccaaV3
namespace Go.Av
open Go.Proofs
set_option maxRecDepth 100000
set_option linter.unusedSimpArgs false
set_option linter.unusedVariables false

set_option maxHeartbeats 8000000 in
theorem f67 (g : Gr) (hg : g.Small) : PF pg Tq 67 [.agg (eGr g)] (.tup [.int .i64 (checkL g).1, .int .i64 (checkL g).2]) := by
  have fin : FH pg Tq 67 [.agg (eGr g)] h0 0 fun r h n => r = .tup [.int .i64 (checkL g).1, .int .i64 (checkL g).2] := by
    refine FH.of (N := 53) (rs := #[.tmp 2, .tmp 3]) Try.func67 rfl rfl (of_decide_eq_true rfl) rfl (by decide) ?_
    refine W.rseq (k := 3) rfl fun K hK => ?_
    simp only [go_sem]
    refine hK _ _ _ ?_
    clear hK K
    refine W.seq ?_
    refine W.rseq (k := 3) rfl fun K hK => ?_
    simp only [go_sem]
    refine VCall.frz 6 (f35 g hg) rfl ?_
    try simp only [go_sem]
    refine hK _ _ _ ?_
    clear hK K
    cases hr : right g
    · refine W.condT (by simp only [go_sem, hr]) ?_
      refine W.rseq (k := 2) rfl fun K hK => ?_
      simp only [go_sem]
      refine hK _ _ _ ?_
      clear hK K
      refine W.ret ?_
      simp only [go_sem]
      rw [checkL, hr]; rfl
    refine W.condF (by simp only [go_sem, hr]) ?_
    refine W.skip ?_
    simp only [go_sem]
    obtain ⟨⟨hn1, hn2⟩, _, _, hp60, h5⟩ := right_in hr
    obtain ⟨M, hM⟩ : ∃ M, M = g.nons.toNat := ⟨_, rfl⟩
    have hMn : g.nons = (M : Int) := by omega
    have hl1 := (ranks_fin (terms := true) hr).1
    have hl2 := (reach_fin hr).1
    have h31 := OwnFc.pf (f31 g hg true)
    have h39 := OwnFc.pf (f39 g hg)
    rw [← ranks_same] at h31
    rw [← reach_same] at h39
    obtain ⟨R1, hR1⟩ : ∃ R1, R1 = ranksL g true := ⟨_, rfl⟩
    obtain ⟨R2, hR2⟩ : ∃ R2, R2 = reachL g := ⟨_, rfl⟩
    have hce : checkL g = match seek (zR R1) M 0 with
      | some i => ((i : Int), 8)
      | none => match seek (zR R2) M 0 with
        | some i => ((i : Int), 9)
        | none => match seek (cycB g) M 0 with
          | some i => ((i : Int), 10)
          | none => (0, 0) := by rw [checkL, hr, ← hM, hR1, hR2]; rfl
    rw [← hR1] at h31 hl1
    rw [← hR2] at h39 hl2
    clear hR1 hR2
    refine W.rseq (k := 3) rfl fun K hK => ?_
    simp only [go_sem]
    refine VCall.frz 6 h31 rfl ?_
    try simp only [go_sem]
    refine hK _ _ _ ?_
    clear hK K
    refine W.seqk fun K hK => ?_
    refine W.rseq (k := 1) rfl fun K hK => ?_
    simp only [go_sem]
    refine hK _ _ _ ?_
    clear hK K
    have nx1 : ∀ (t' : Fr) (h' : Heap) (n' : Nat), h' 0 = some (.cells [eGr g]) → 0 < n' → t' 1 = .ptr 0 0 0 → seek (zR R1) M 0 = none → K t' h' n' := by
      intro t' h' n' e1 e2 e3 e4
      refine hK _ _ _ ?_
      clear hK K
      rw [e4] at hce
      simp only at hce
      refine W.rseq (k := 3) rfl fun K hK => ?_
      simp only [go_sem, e3, e1]
      refine VCall.frz 6 h39 rfl ?_
      try simp only [go_sem, e3, e1]
      refine hK _ _ _ ?_
      clear hK K
      refine W.seqk fun K hK => ?_
      refine W.rseq (k := 1) rfl fun K hK => ?_
      simp only [go_sem]
      refine hK _ _ _ ?_
      clear hK K
      have nx2 : ∀ (t' : Fr) (h' : Heap) (n' : Nat), h' 0 = some (.cells [eGr g]) → 0 < n' → t' 1 = .ptr 0 0 0 → seek (zR R2) M 0 = none → K t' h' n' := by
        intro t' h' n' e1 e2 e3 e4
        refine hK _ _ _ ?_
        clear hK K
        rw [e4] at hce
        simp only at hce
        refine W.seqk fun K hK => ?_
        refine W.rseq (k := 1) rfl fun K hK => ?_
        simp only [go_sem]
        refine hK _ _ _ ?_
        clear hK K
        have nx3 : ∀ (t' : Fr) (h' : Heap) (n' : Nat), seek (cycB g) M 0 = none → K t' h' n' := by
          intro t' h' n' e4
          refine hK _ _ _ ?_
          clear hK K
          rw [e4] at hce
          simp only at hce
          refine W.rseq (k := 2) rfl fun K hK => ?_
          simp only [go_sem]
          refine hK _ _ _ ?_
          clear hK K
          refine W.ret ?_
          simp only [go_sem]
          rw [hce]
        clear hK
        refine W.block (W.while (fun m t h n => ∃ i : Nat, m = M - i ∧ i ≤ M ∧ 0 < n ∧ seek (cycB g) (M - i) i = seek (cycB g) M 0 ∧ h 0 = some (.cells [eGr g]) ∧ t 1 = .ptr 0 0 0 ∧ t 7 = .int .i64 i) M
          ⟨0, by simp, by simp, by omega, by simp, e1, e3, rfl⟩ fun m t h n ⟨i, i1, i2, i3, i4, i5, i6, i7⟩ => ?_)
        have z0 : ∀ j, ¬ 0 = n + j := fun j => by omega
        refine W.seq ?_
        refine W.rseq (k := 4) rfl fun K hK => ?_
        simp only [go_sem, i6, i5, i7]
        refine hK _ _ _ ?_
        clear hK K
        refine W.cond rfl (fun hc => ?_) fun hc => ?_
        · refine W.skip ?_
          simp only [go_sem]
          have hi : i < M := by simp at hc; omega
          obtain ⟨l, hp, hw⟩ := f103 g hg hr i (by omega)
          have hw' : decide ((l.length : Int) > 0) = cycB g i := by rw [← hw]; exact decide_eq_decide.2 (by omega)
          rw [show M - i = (M - (i + 1)) + 1 by omega, seek] at i4
          refine W.seq (W.block ?_)
          refine W.rseq (k := 5) rfl fun K hK => ?_
          simp only [go_sem, i6, i5, i7]
          refine VCall.frz 6 hp rfl ?_
          simp only [go_sem]
          refine hK _ _ _ ?_
          first | clear hK K | clear hK | skip
          cases hcy : cycB g i
          · rw [hcy] at i4
            refine W.condF (by simp only [go_sem]; rw [hw', hcy]) ?_
            refine W.skip ?_
            simp only [go_sem]
            refine W.region (k := 3) rfl ?_
            simp only [go_sem, i7]
            refine ⟨M - (i + 1), by omega, i + 1, rfl, by omega, by omega, i4, i5, i6, ?_⟩
            rw [wrap64 (by omega) (by omega)]; rfl
          · rw [hcy] at i4
            refine W.condT (by simp only [go_sem]; rw [hw', hcy]) ?_
            refine W.rseq (k := 3) rfl fun K hK => ?_
            simp only [go_sem, i7]
            refine hK _ _ _ ?_
            clear hK K
            refine W.ret ?_
            simp only [go_sem]
            rw [hce, ← i4]; rfl
        · refine W.exit ?_
          simp only [go_sem]
          have hi : i = M := by simp at hc; omega
          rw [hi, Nat.sub_self, seek] at i4
          exact nx3 _ _ _ i4.symm
      clear hK
      refine W.block (W.while (fun m t h n => ∃ i : Nat, m = M - i ∧ i ≤ M ∧ 0 < n ∧ seek (zR R2) (M - i) i = seek (zR R2) M 0 ∧ h 0 = some (.cells [eGr g]) ∧ (t 1 = .ptr 0 0 0 ∧ t 4 = .ro (R2.map eFc)) ∧ t 6 = .int .i64 i) M
        ⟨0, by simp, by simp, by omega, by simp, e1, ⟨e3, rfl⟩, rfl⟩ fun m t h n ⟨i, i1, i2, i3, i4, i5, i6, i7⟩ => ?_)
      obtain ⟨a1, a4⟩ := i6
      refine W.seq ?_
      refine W.rseq (k := 4) rfl fun K hK => ?_
      simp only [go_sem, a1, i5, i7]
      refine hK _ _ _ ?_
      clear hK K
      refine W.cond rfl (fun hc => ?_) fun hc => ?_
      · refine W.skip ?_
        simp only [go_sem]
        have hi : i < M := by simp at hc; omega
        obtain ⟨y, hy⟩ := fc_get (l := R2) (n := (i : Int)) (by omega) (by omega)
        rw [Int.toNat_natCast] at hy
        rw [show M - i = (M - (i + 1)) + 1 by omega, seek] at i4
        refine W.seq (W.block ?_)
        refine W.rseq (k := 6) rfl fun K hK => ?_
        simp only [go_sem, a4, i7, hy]
        refine hK _ _ _ ?_
        clear hK K
        by_cases hz : rk R2 i = 0
        · rw [if_pos (show zR R2 i = true from decide_eq_true hz)] at i4
          refine W.condT (by simp only [go_sem, hz]) ?_
          refine W.rseq (k := 3) rfl fun K hK => ?_
          simp only [go_sem, i7]
          refine hK _ _ _ ?_
          clear hK K
          refine W.ret ?_
          simp only [go_sem]
          rw [hce, ← i4]
        · rw [if_neg (show ¬ zR R2 i = true by simpa [zR] using hz)] at i4
          refine W.condF (by simp only [go_sem, decide_eq_false hz]) ?_
          refine W.skip ?_
          simp only [go_sem]
          refine W.region (k := 3) rfl ?_
          simp only [go_sem, i7]
          refine ⟨M - (i + 1), by omega, i + 1, rfl, by omega, by omega, i4, i5, ⟨a1, a4⟩, ?_⟩
          rw [wrap64 (by omega) (by omega)]; rfl
      · refine W.exit ?_
        simp only [go_sem]
        have hi : i = M := by simp at hc; omega
        rw [hi, Nat.sub_self, seek] at i4
        exact nx2 _ _ _ i5 (by omega) a1 i4.symm
    clear hK
    refine W.block (W.while (fun m t h n => ∃ i : Nat, m = M - i ∧ i ≤ M ∧ 0 < n ∧ seek (zR R1) (M - i) i = seek (zR R1) M 0 ∧ h 0 = some (.cells [eGr g]) ∧ (t 1 = .ptr 0 0 0 ∧ t 4 = .ro (R1.map eFc)) ∧ t 5 = .int .i64 i) M
      ⟨0, by simp, by simp, by omega, by simp, by simp only [go_sem], ⟨rfl, rfl⟩, rfl⟩ fun m t h n ⟨i, i1, i2, i3, i4, i5, i6, i7⟩ => ?_)
    obtain ⟨a1, a4⟩ := i6
    refine W.seq ?_
    refine W.rseq (k := 4) rfl fun K hK => ?_
    simp only [go_sem, a1, i5, i7]
    refine hK _ _ _ ?_
    clear hK K
    refine W.cond rfl (fun hc => ?_) fun hc => ?_
    · refine W.skip ?_
      simp only [go_sem]
      have hi : i < M := by simp at hc; omega
      obtain ⟨y, hy⟩ := fc_get (l := R1) (n := (i : Int)) (by omega) (by omega)
      rw [Int.toNat_natCast] at hy
      rw [show M - i = (M - (i + 1)) + 1 by omega, seek] at i4
      refine W.seq (W.block ?_)
      refine W.rseq (k := 6) rfl fun K hK => ?_
      simp only [go_sem, a4, i7, hy]
      refine hK _ _ _ ?_
      clear hK K
      by_cases hz : rk R1 i = 0
      · rw [if_pos (show zR R1 i = true from decide_eq_true hz)] at i4
        refine W.condT (by simp only [go_sem, hz]) ?_
        refine W.rseq (k := 3) rfl fun K hK => ?_
        simp only [go_sem, i7]
        refine hK _ _ _ ?_
        clear hK K
        refine W.ret ?_
        simp only [go_sem]
        rw [hce, ← i4]
      · rw [if_neg (show ¬ zR R1 i = true by simpa [zR] using hz)] at i4
        refine W.condF (by simp only [go_sem, decide_eq_false hz]) ?_
        refine W.skip ?_
        simp only [go_sem]
        refine W.region (k := 3) rfl ?_
        simp only [go_sem, i7]
        refine ⟨M - (i + 1), by omega, i + 1, rfl, by omega, by omega, i4, i5, ⟨a1, a4⟩, ?_⟩
        rw [wrap64 (by omega) (by omega)]; rfl
    · refine W.exit ?_
      simp only [go_sem]
      have hi : i = M := by simp at hc; omega
      rw [hi, Nat.sub_self, seek] at i4
      exact nx1 _ _ _ i5 (by omega) a1 i4.symm
  obtain ⟨r, h', n', hb, rfl⟩ := fin
  exact ⟨_, h', n', hb, 3, fun fr => rfl⟩

set_option maxHeartbeats 4000000 in
theorem f18 (g : Gr) (hg : g.Small) : FH pg Tq 18 [.agg (eGr g)] h0 0 fun r _ _ => r = .bool true := by
  refine FH.of (N := 29) (rs := #[.tmp 2]) Try.func18 rfl rfl (of_decide_eq_true rfl) rfl (by decide) ?_
  refine W.rseq (k := 2) rfl fun K hK => ?_
  simp only [go_sem]
  refine hK _ _ _ ?_
  clear hK K
  refine W.seq ?_
  refine W.rseq (k := 2) rfl fun K hK => ?_
  simp only [go_sem]
  refine VCall.frz 6 f65 rfl ?_
  try simp only [go_sem]
  refine hK _ _ _ ?_
  clear hK K
  refine W.condF (by simp only [go_sem]) ?_
  refine W.skip ?_
  simp only [go_sem]
  refine W.seq ?_
  refine W.rseq (k := 2) rfl fun K hK => ?_
  simp only [go_sem]
  refine VCall.frz 6 (f28 g hg) rfl ?_
  try simp only [go_sem]
  refine hK _ _ _ ?_
  clear hK K
  cases hlg : large g with
  | true =>
    refine W.condT (by simp only [go_sem, hlg]) ?_
    refine W.rseq (k := 1) rfl fun K hK => ?_
    simp only [go_sem]
    refine hK _ _ _ ?_
    clear hK K
    refine W.ret ?_
    simp only [go_sem]
  | false =>
  refine W.condF (by simp only [go_sem, hlg]) ?_
  refine W.skip ?_
  simp only [go_sem]
  have h66 := f66 g hg
  have h67 := f67 g hg
  obtain ⟨a, k⟩ := checkL g
  refine W.rseq (k := 7) rfl fun K hK => ?_
  simp only [go_sem]
  refine VCall.frz 6 h66 rfl ?_
  try simp only [go_sem]
  refine hK _ _ _ ?_
  clear hK K
  refine W.rseq (k := 7) rfl fun K hK => ?_
  simp only [go_sem]
  refine VCall.frz 6 h67 rfl ?_
  try simp only [go_sem]
  refine hK _ _ _ ?_
  clear hK K
  refine W.rseq (k := 9) rfl fun K hK => ?_
  simp only [go_sem]
  refine hK _ _ _ ?_
  clear hK K
  refine W.ret ?_
  simp only [go_sem]

end Go.Av

