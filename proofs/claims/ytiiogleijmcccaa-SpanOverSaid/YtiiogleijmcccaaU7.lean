/-
  Layer 14: soundness told. Conditions: none.
-/
import Derived.Test.YtiiogleijmcccaaU6
namespace Go.Av
open Go.Proofs
set_option maxRecDepth 100000
set_option linter.unusedSimpArgs false
set_option linter.unusedVariables false

theorem bit_is1 {x t : Nat} : decide (((x / 2 ^ t % 2 : Nat) : Int) = 1) = x.testBit t := by
  rw [Nat.testBit_eq_decide_div_mod_eq]
  have := Nat.mod_lt (x / 2 ^ t) (show 0 < 2 by decide)
  by_cases h : x / 2 ^ t % 2 = 1
  · simp [h]
  · have h0 : x / 2 ^ t % 2 = 0 := by omega
    simp [h0]

theorem sk_neg {o : Option Nat} : decide (sk o ≥ 0) = o.isSome := by
  cases o with
  | none => rfl
  | some i => simp [sk]

set_option maxHeartbeats 4000000 in
theorem f66 (g : Gr) (hg : g.Small) : PF pg Tq 66 [.agg (eGr g)] (.tup [.int .i64 (checkL g).1, .int .i64 (checkL g).2]) := by
  have fin : FH pg Tq 66 [.agg (eGr g)] h0 0 fun r h n => r = .tup [.int .i64 (checkL g).1, .int .i64 (checkL g).2] := by
    refine FH.of (N := 40) (rs := #[.tmp 2, .tmp 3]) Try.func66 rfl rfl (of_decide_eq_true rfl) rfl (by decide) ?_
    refine W.rseq (k := 3) rfl fun K hK => ?_
    simp only [go_sem]
    refine hK _ _ _ ?_
    clear hK K
    refine W.seq ?_
    refine W.rseq (k := 3) rfl fun K hK => ?_
    simp only [go_sem]
    refine VCall.frz 6 (f87 g hg) rfl ?_
    try simp only [go_sem]
    refine hK _ _ _ ?_
    clear hK K
    cases hr : right g
    · refine W.condT (by simp only [go_sem, hr]) ?_
      refine W.rseq (k := 2) rfl fun K hK => ?_
      simp only [go_sem]
      refine hK _ _ _ ?_
      clear hK K
      refine W.ret ?_
      simp only [go_sem]
      rw [checkL, hr]; rfl
    refine W.condF (by simp only [go_sem, hr]) ?_
    refine W.skip ?_
    simp only [go_sem]
    obtain ⟨⟨hn1, hn2⟩, _, _, hp60, h5⟩ := right_in hr
    obtain ⟨M, hM⟩ : ∃ M, M = g.nons.toNat := ⟨_, rfl⟩
    have hMn : g.nons = (M : Int) := by omega
    have hl1 : (ranksL g true).length = M := by have := (ranks_fin (terms := true) hr).1; omega
    have hl2 : (reachL g).length = M := by have := (reach_fin hr).1; omega
    have hce : checkL g = match seek (zR (ranksL g true)) M 0 with
      | some i => ((i : Int), 8)
      | none => match seek (zR (reachL g)) M 0 with
        | some i => ((i : Int), 9)
        | none => match seek (cycB g) M 0 with
          | some i => ((i : Int), 10)
          | none => (0, 0) := by rw [checkL, hr, ← hM]; rfl
    have h1 := f101 (ranksL g true) (by omega)
    have h2 := f101 (reachL g) (by omega)
    rw [hl1] at h1
    rw [hl2] at h2
    obtain ⟨w, w1, w2, h3⟩ := f102 g hg hr
    rw [← hM] at w2
    refine W.rseq (k := 1) rfl fun K hK => ?_
    simp only [go_sem]
    refine hK _ _ _ ?_
    clear hK K
    refine W.seq ?_
    refine W.rseq (k := 5) rfl fun K hK => ?_
    simp only [go_sem]
    refine VCall.frz 6 (OwnFc.pf (f32 g hg)) rfl ?_
    simp only [go_sem]
    refine VCall.frz 6 h1 rfl ?_
    simp only [go_sem]
    refine hK _ _ _ ?_
    first | clear hK K | clear hK | skip
    refine W.rseq (k := 2) rfl fun K hK => ?_
    simp only [go_sem]
    refine hK _ _ _ ?_
    clear hK K
    cases hs1 : seek (zR (ranksL g true)) M 0 with
    | some i =>
      refine W.condT (by simp only [go_sem]; rw [sk_neg]; rfl) ?_
      refine W.rseq (k := 3) rfl fun K hK => ?_
      simp only [go_sem]
      refine hK _ _ _ ?_
      clear hK K
      refine W.ret ?_
      simp only [go_sem]
      rw [hce, hs1]; rfl
    | none =>
    refine W.condF (by simp only [go_sem]; rw [sk_neg]; rfl) ?_
    refine W.skip ?_
    simp only [go_sem]
    refine W.seq ?_
    refine W.rseq (k := 5) rfl fun K hK => ?_
    simp only [go_sem]
    refine VCall.frz 6 (OwnFc.pf (f38 g hg)) rfl ?_
    simp only [go_sem]
    refine VCall.frz 6 h2 rfl ?_
    simp only [go_sem]
    refine hK _ _ _ ?_
    first | clear hK K | clear hK | skip
    refine W.rseq (k := 2) rfl fun K hK => ?_
    simp only [go_sem]
    refine hK _ _ _ ?_
    clear hK K
    cases hs2 : seek (zR (reachL g)) M 0 with
    | some i =>
      refine W.condT (by simp only [go_sem]; rw [sk_neg]; rfl) ?_
      refine W.rseq (k := 3) rfl fun K hK => ?_
      simp only [go_sem]
      refine hK _ _ _ ?_
      clear hK K
      refine W.ret ?_
      simp only [go_sem]
      rw [hce, hs1, hs2]; rfl
    | none =>
    refine W.condF (by simp only [go_sem]; rw [sk_neg]; rfl) ?_
    refine W.skip ?_
    simp only [go_sem]
    rw [hs1, hs2] at hce
    simp only at hce
    refine W.rseq (k := 3) rfl fun K hK => ?_
    simp only [go_sem]
    refine VCall.frz 6 h3 rfl ?_
    try simp only [go_sem]
    refine hK _ _ _ ?_
    clear hK K
    refine W.seq ?_
    refine W.rseq (k := 3) rfl fun K hK => ?_
    simp only [go_sem]
    refine hK _ _ _ ?_
    clear hK K
    refine W.block (W.while (fun m t h n => ∃ (i : Nat), m = M - i ∧ i ≤ M ∧ seek (cycB g) (M - i) i = seek (cycB g) M 0 ∧ (t 7 = .int .u32 w ∧ t 29 = .int .i64 M) ∧ t 30 = .int .i64 i) M
      ⟨0, by simp, by simp, by simp, ⟨rfl, by simp only [go_sem, hMn]⟩, rfl⟩ fun m t h n ⟨i, i1, i2, i3, i7, i9⟩ => ?_)
    have i7' := i7
    obtain ⟨a7, a29⟩ := i7'
    refine W.rseq (k := 1) rfl fun K hK => ?_
    simp only [go_sem, a29, i9]
    refine hK _ _ _ ?_
    clear hK K
    refine W.seq ?_
    refine W.cond rfl (fun hc => ?_) fun hc => ?_
    · refine W.skip ?_
      simp only [go_sem]
      have hi : i < M := by simp at hc; omega
      have hw := w2 i hi
      rw [show M - i = (M - (i + 1)) + 1 by omega, seek] at i3
      refine W.seq (W.block ?_)
      refine W.rseq (k := 2) rfl fun K hK => ?_
      simp only [go_sem, i9]
      refine hK _ _ _ ?_
      clear hK K
      refine W.rseq (k := 5) rfl fun K hK => ?_
      simp only [go_sem, a7, shr32 (x := w) (show i < 32 by omega), and32 (x := w / 2 ^ i) (Nat.lt_of_le_of_lt (Nat.div_le_self _ _) w1)]
      refine hK _ _ _ ?_
      clear hK K
      cases hcy : cycB g i
      · rw [hcy] at i3 hw
        refine W.condF (by simp only [go_sem]; rw [bit_is1, hw]) ?_
        refine W.skip ?_
        simp only [go_sem]
        refine W.region (k := 2) rfl ?_
        simp only [go_sem, i9]
        refine ⟨M - (i + 1), by omega, i + 1, rfl, by omega, i3, ⟨a7, a29⟩, ?_⟩
        rw [wrap64 (by omega) (by omega)]; rfl
      · rw [hcy] at i3 hw
        refine W.condT (by simp only [go_sem]; rw [bit_is1, hw]) ?_
        refine W.rseq (k := 3) rfl fun K hK => ?_
        simp only [go_sem]
        refine hK _ _ _ ?_
        clear hK K
        refine W.ret ?_
        simp only [go_sem]
        rw [hce, ← i3]; rfl
    · refine W.exit ?_
      simp only [go_sem]
      have hi : i = M := by simp at hc; omega
      rw [hi, Nat.sub_self, seek] at i3
      refine W.rseq (k := 2) rfl fun K hK => ?_
      simp only [go_sem]
      refine hK _ _ _ ?_
      clear hK K
      refine W.ret ?_
      simp only [go_sem]
      rw [hce, ← i3]
  obtain ⟨r, h', n', hb, rfl⟩ := fin
  exact ⟨_, h', n', hb, 3, fun fr => rfl⟩

end Go.Av

