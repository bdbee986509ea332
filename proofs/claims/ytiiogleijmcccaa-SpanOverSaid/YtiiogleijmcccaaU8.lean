/-
  Layer 14: soundness shown. Conditions: none.
-/
import Derived.Test.YtiiogleijmcccaaU7
import Derived.Test.YtiiogleijmcccaaD1
namespace Go.Av
open Go.Proofs
set_option maxRecDepth 100000
set_option linter.unusedSimpArgs false
set_option linter.unusedVariables false

def gS1 : Gr := ⟨1, 1, 0, [⟨0, [⟨true, 0⟩, ⟨false, 0⟩]⟩, ⟨0, [⟨false, 0⟩]⟩]⟩
def gS2 : Gr := ⟨1, 1, 0, [⟨0, [⟨false, 0⟩, ⟨true, 0⟩]⟩, ⟨0, []⟩]⟩
def gS3 : Gr := ⟨0, 2, 0, [⟨0, []⟩]⟩
def gS4 : Gr := ⟨0, 2, 0, [⟨0, []⟩, ⟨1, []⟩]⟩
def gS5 : Gr := ⟨0, 0, 0, []⟩

theorem gS1_small : gS1.Small := by
  refine ⟨by decide, fun p hp => ?_⟩
  simp [gS1] at hp
  rcases hp with rfl | rfl <;> decide
theorem gS2_small : gS2.Small := by
  refine ⟨by decide, fun p hp => ?_⟩
  simp [gS2] at hp
  rcases hp with rfl | rfl <;> decide
theorem gS3_small : gS3.Small := by
  refine ⟨by decide, fun p hp => ?_⟩
  simp [gS3] at hp
  rcases hp with rfl <;> decide
theorem gS4_small : gS4.Small := by
  refine ⟨by decide, fun p hp => ?_⟩
  simp [gS4] at hp
  rcases hp with rfl | rfl <;> decide
theorem gS5_small : gS5.Small := by
  refine ⟨by decide, fun p hp => ?_⟩
  simp [gS5] at hp

theorem checkS1 : checkL gS1 = (0, 10) := by
  have hs : stepsG gS1 = [⟨0, 0, 0, 0⟩] := by kernel_rfl
  have hc : cycB gS1 0 = true := cycB_iff.2 ⟨[⟨0, 0, 0, 0⟩], by simp, by rw [hs]; exact ⟨by simp, rfl, rfl⟩⟩
  have h3 : seek (cycB gS1) gS1.nons.toNat 0 = some 0 := by
    show (if cycB gS1 0 = true then some 0 else none) = some 0
    rw [hc]; rfl
  rw [checkL, show right gS1 = true by kernel_rfl, show seek (zR (ranksL gS1 true)) gS1.nons.toNat 0 = none by kernel_rfl, show seek (zR (reachL gS1)) gS1.nons.toNat 0 = none by kernel_rfl, h3]
  rfl

theorem checkS2 : checkL gS2 = (0, 0) := by
  have hs : stepsG gS2 = [] := by kernel_rfl
  have hc : cycB gS2 0 = false := by
    cases h : cycB gS2 0
    · rfl
    · obtain ⟨l, h1, h2⟩ := cycB_iff.1 h
      rw [hs] at h2
      cases l with
      | nil => exact absurd rfl h1
      | cons x l => cases h2.1
  have h3 : seek (cycB gS2) gS2.nons.toNat 0 = none := by
    show (if cycB gS2 0 = true then some 0 else none) = none
    rw [hc]; rfl
  rw [checkL, show right gS2 = true by kernel_rfl, show seek (zR (ranksL gS2 true)) gS2.nons.toNat 0 = none by kernel_rfl, show seek (zR (reachL gS2)) gS2.nons.toNat 0 = none by kernel_rfl, h3]
  rfl

theorem checkS3 : checkL gS3 = (1, 8) := by
  rw [checkL, show right gS3 = true by kernel_rfl, show seek (zR (ranksL gS3 true)) gS3.nons.toNat 0 = some 1 by kernel_rfl]
  rfl

theorem checkS4 : checkL gS4 = (1, 9) := by
  rw [checkL, show right gS4 = true by kernel_rfl, show seek (zR (ranksL gS4 true)) gS4.nons.toNat 0 = none by kernel_rfl, show seek (zR (reachL gS4)) gS4.nons.toNat 0 = some 1 by kernel_rfl]
  rfl

theorem checkS5 : checkL gS5 = (0, 1) := by
  rw [checkL, show right gS5 = false by kernel_rfl]
  rfl

set_option maxHeartbeats 4000000 in
theorem f65 : PF pg Tq 65 [] (.bool true) := by
  have h1 := f66 gS1 gS1_small
  have h2 := f66 gS2 gS2_small
  have h3 := f66 gS3 gS3_small
  have h4 := f66 gS4 gS4_small
  have h5 := f66 gS5 gS5_small
  rw [checkS1] at h1
  rw [checkS2] at h2
  rw [checkS3] at h3
  rw [checkS4] at h4
  rw [checkS5] at h5
  refine Fb ?_
  refine FH.of (N := 89) (rs := #[.tmp 0]) Try.func65 rfl rfl (of_decide_eq_true rfl) rfl (by decide) ?_
  refine W.rseq (k := 1) rfl fun K hK => ?_
  simp only [go_sem]
  refine hK _ _ _ ?_
  clear hK K
  refine W.rseq (k := 15) rfl fun K hK => ?_
  simp only [go_sem, show (0 : Nat) < 2 by omega, show ¬ (2 : Nat) = 0 by omega, show ¬ (1 : Nat) = 0 by omega, show (0 : Nat) < 1 by omega]
  refine VCall.frzq 20 (by kernel_rfl) h1 ?_
  simp only [go_sem]
  refine hK _ _ _ ?_
  first | clear hK K | clear hK | skip
  refine W.rseq (k := 13) rfl fun K hK => ?_
  simp only [go_sem, show (0 : Nat) < 2 by omega, show ¬ (2 : Nat) = 0 by omega, show ¬ (1 : Nat) = 0 by omega, show (0 : Nat) < 1 by omega]
  refine VCall.frzq 20 (by kernel_rfl) h2 ?_
  simp only [go_sem]
  refine hK _ _ _ ?_
  first | clear hK K | clear hK | skip
  refine W.rseq (k := 9) rfl fun K hK => ?_
  simp only [go_sem, show (0 : Nat) < 2 by omega, show ¬ (2 : Nat) = 0 by omega, show ¬ (1 : Nat) = 0 by omega, show (0 : Nat) < 1 by omega]
  refine VCall.frzq 20 (by kernel_rfl) h3 ?_
  simp only [go_sem]
  refine hK _ _ _ ?_
  first | clear hK K | clear hK | skip
  refine W.rseq (k := 10) rfl fun K hK => ?_
  simp only [go_sem, show (0 : Nat) < 2 by omega, show ¬ (2 : Nat) = 0 by omega, show ¬ (1 : Nat) = 0 by omega, show (0 : Nat) < 1 by omega]
  refine VCall.frzq 20 (by kernel_rfl) h4 ?_
  simp only [go_sem]
  refine hK _ _ _ ?_
  first | clear hK K | clear hK | skip
  refine W.rseq (k := 7) rfl fun K hK => ?_
  simp only [go_sem]
  refine VCall.frzq 20 (by kernel_rfl) h5 ?_
  simp only [go_sem]
  refine hK _ _ _ ?_
  first | clear hK K | clear hK | skip
  refine W.rseq (k := 35) rfl fun K hK => ?_
  simp only [go_sem]
  refine hK _ _ _ ?_
  first | clear hK K | clear hK | skip
  refine W.ret ?_
  simp only [go_sem]

theorem rk_pos {l : List Fc} {b : Int} (h : Bd l b) {i : Nat} (hz : zR l i = false) : decide (rk l i > 0) = true := by
  have := (h i).1
  have hn : ¬ rk l i = 0 := by simpa [zR] using hz
  exact decide_eq_true (by omega)

theorem rk_zero {l : List Fc} {i : Nat} (hz : zR l i = true) : decide (rk l i > 0) = false := by
  have hn : rk l i = 0 := by simpa [zR] using hz
  exact decide_eq_false (by omega)

set_option maxHeartbeats 8000000 in
theorem f19 (g : Gr) (hg : g.Small) : FH pg Tq 19 [.agg (eGr g)] h0 0 fun r _ _ => r = .bool true := by
  refine FH.of (N := 128) (rs := #[.tmp 2]) Try.func19 rfl rfl (of_decide_eq_true rfl) rfl (by decide) ?_
  refine W.rseq (k := 2) rfl fun K hK => ?_
  simp only [go_sem]
  refine hK _ _ _ ?_
  clear hK K
  refine W.seq ?_
  refine W.rseq (k := 2) rfl fun K hK => ?_
  simp only [go_sem]
  refine VCall.frz 6 f65 rfl ?_
  try simp only [go_sem]
  refine hK _ _ _ ?_
  clear hK K
  refine W.condF (by simp only [go_sem]) ?_
  refine W.skip ?_
  simp only [go_sem]
  refine W.seq ?_
  refine W.rseq (k := 7) rfl fun K hK => ?_
  simp only [go_sem]
  refine VCall.frz 6 (f28 g hg) rfl ?_
  cases hlg : large g with
  | true =>
    simp only [go_sem]
    refine hK _ _ _ ?_
    first | clear hK K | clear hK | skip
    refine W.condT (by simp only [go_sem]) ?_
    refine W.rseq (k := 1) rfl fun K hK => ?_
    simp only [go_sem]
    refine hK _ _ _ ?_
    clear hK K
    refine W.ret ?_
    simp only [go_sem]
  | false =>
  simp only [go_sem]
  refine VCall.frz 6 (f35 g hg) rfl ?_
  cases hr : right g
  · simp only [go_sem]
    refine hK _ _ _ ?_
    first | clear hK K | clear hK | skip
    refine W.condT (by simp only [go_sem]) ?_
    refine W.rseq (k := 1) rfl fun K hK => ?_
    simp only [go_sem]
    refine hK _ _ _ ?_
    clear hK K
    refine W.ret ?_
    simp only [go_sem]
  simp only [go_sem]
  refine hK _ _ _ ?_
  first | clear hK K | clear hK | skip
  refine W.condF (by simp only [go_sem]) ?_
  refine W.skip ?_
  simp only [go_sem]
  obtain ⟨⟨hn1, hn2⟩, _, _, hp60, h5⟩ := right_in hr
  obtain ⟨M, hM⟩ : ∃ M, M = g.nons.toNat := ⟨_, rfl⟩
  have hMn : g.nons = (M : Int) := by omega
  obtain ⟨hl1, ⟨b1, hb1⟩, _⟩ := ranks_fin (terms := true) hr
  obtain ⟨hl2, ⟨b2, hb2⟩, _⟩ := reach_fin hr
  have h66 := f66 g hg
  obtain ⟨R1, hR1⟩ : ∃ R1, R1 = ranksL g true := ⟨_, rfl⟩
  obtain ⟨R2, hR2⟩ : ∃ R2, R2 = reachL g := ⟨_, rfl⟩
  have h32 := OwnFc.pf (f32 g hg)
  have h38 := OwnFc.pf (f38 g hg)
  have hce : checkL g = match seek (zR R1) M 0 with
    | some i => ((i : Int), 8)
    | none => match seek (zR R2) M 0 with
      | some i => ((i : Int), 9)
      | none => match seek (cycB g) M 0 with
        | some i => ((i : Int), 10)
        | none => (0, 0) := by rw [checkL, hr, ← hM, hR1, hR2]; rfl
  rw [← hR1] at h32 hl1 hb1
  rw [← hR2] at h38 hl2 hb2
  have hck : ∃ (a : Nat) (k : Int), checkL g = ((a : Int), k) ∧ a < M ∧ (
      (k = 8 ∧ zR R1 a = true) ∨ (k = 9 ∧ zR R1 a = false ∧ zR R2 a = true) ∨ (k = 10 ∧ zR R1 a = false ∧ zR R2 a = false ∧ cycB g a = true) ∨
      (k = 0 ∧ a = 0 ∧ ∀ i, i < M → zR R1 i = false ∧ zR R2 i = false ∧ cycB g i = false)) := by
    cases e1 : seek (zR R1) M 0 with
    | some i =>
      rw [e1] at hce
      obtain ⟨_, q2, q3, _⟩ := seek_some e1
      exact ⟨i, 8, hce, by omega, .inl ⟨rfl, q3⟩⟩
    | none =>
      rw [e1] at hce
      have q1 := seek_none e1
      cases e2 : seek (zR R2) M 0 with
      | some i =>
        rw [e2] at hce
        obtain ⟨_, q2, q3, _⟩ := seek_some e2
        exact ⟨i, 9, hce, by omega, .inr (.inl ⟨rfl, q1 i (by omega) (by omega), q3⟩)⟩
      | none =>
        rw [e2] at hce
        have q2 := seek_none e2
        cases e3 : seek (cycB g) M 0 with
        | some i =>
          rw [e3] at hce
          obtain ⟨_, q4, q3, _⟩ := seek_some e3
          exact ⟨i, 10, hce, by omega, .inr (.inr (.inl ⟨rfl, q1 i (by omega) (by omega), q2 i (by omega) (by omega), q3⟩))⟩
        | none =>
          rw [e3] at hce
          have q3 := seek_none e3
          exact ⟨0, 0, hce, by omega, .inr (.inr (.inr ⟨rfl, rfl, fun i hi => ⟨q1 i (by omega) (by omega), q2 i (by omega) (by omega), q3 i (by omega) (by omega)⟩⟩))⟩
  obtain ⟨a, k, hak, haM, hlaw⟩ := hck
  rw [hak] at h66
  clear hce hR1 hR2 hak
  refine W.rseq (k := 7) rfl fun K hK => ?_
  simp only [go_sem]
  refine VCall.frz 6 h66 rfl ?_
  simp only [go_sem]
  refine hK _ _ _ ?_
  first | clear hK K | clear hK | skip
  refine W.dseq (k := 6) rfl fun K hK => ?_
  simp only [go_sem]
  refine VCall.frz 6 h32 rfl ?_
  simp only [go_sem]
  refine VCall.frz 6 h38 rfl ?_
  simp only [go_sem]
  refine hK _ _ _ _ (by kernel_rfl) ?_
  clear hK K
  refine W.seq ?_
  refine W.rseq (k := 22) rfl fun K hK => ?_
  simp only [go_sem, hl1, hl2, decide_eq_false (show ¬ ((a : Int) < 0) by omega), decide_eq_false (show ¬ ((a : Int) ≥ g.nons) by omega)]
  refine hK _ _ _ ?_
  clear hK K
  refine W.condF (by simp only [go_sem]) ?_
  refine W.skip ?_
  simp only [go_sem]
  refine W.rseq (k := 1) rfl fun K hK => ?_
  simp only [go_sem]
  refine hK _ _ _ ?_
  clear hK K
  refine W.seqk fun K hK => ?_
  refine W.rseq (k := 3) rfl fun K hK => ?_
  simp only [go_sem]
  refine hK _ _ _ ?_
  clear hK K
  have nx : ∀ (t' : Fr) (h' : Heap) (n' : Nat) (b : Bool), 0 < n' → ((∀ j, j < M → zR R1 j = false ∧ zR R2 j = false ∧ cycB g j = false) → b = true) → h' 0 = some (.cells [eGr g]) → (t' 1 = .ptr 0 0 0 ∧ t' 3 = .int .i64 a ∧ t' 4 = .int .i64 k ∧ t' 5 = .ro (R1.map eFc) ∧ t' 6 = .ro (R2.map eFc)) → t' 7 = .bool b → K t' h' n' := by
    intro t' h' n' b e1 e2 e3 e4 e5
    refine hK _ _ _ ?_
    clear hK K
    obtain ⟨a1, a3, a4, a5, a6⟩ := e4
    obtain ⟨y1, hy1⟩ := fc_get (l := R1) (n := (a : Int)) (by omega) (by omega)
    obtain ⟨y2, hy2⟩ := fc_get (l := R2) (n := (a : Int)) (by omega) (by omega)
    rw [Int.toNat_natCast] at hy1 hy2
    refine W.seq ?_
    refine W.rseq (k := 1) rfl fun K hK => ?_
    simp only [go_sem]
    refine hK _ _ _ ?_
    clear hK K
    refine W.block ?_
    rcases hlaw with ⟨rfl, c1⟩ | ⟨rfl, c1, c2⟩ | ⟨rfl, c1, c2, c3⟩ | ⟨rfl, rfl, c1⟩
    · have hz1 : rk R1 a = 0 := by simpa [zR] using c1
      refine W.rseq (k := 2) rfl fun K hK => ?_
      simp only [go_sem, a4]
      refine hK _ _ _ ?_
      clear hK K
      refine W.condF (by simp only [go_sem]) ?_
      refine W.rseq (k := 2) rfl fun K hK => ?_
      simp only [go_sem, a4]
      refine hK _ _ _ ?_
      clear hK K
      refine W.condT (by simp only [go_sem]) ?_
      refine W.rseq (k := 7) rfl fun K hK => ?_
      simp only [go_sem, a3, a5, hy1, hz1]
      refine hK _ _ _ ?_
      clear hK K
      refine W.ret ?_
      simp only [go_sem]
    · have hz2 : rk R2 a = 0 := by simpa [zR] using c2
      have hz1 := rk_pos hb1 c1
      refine W.rseq (k := 2) rfl fun K hK => ?_
      simp only [go_sem, a4]
      refine hK _ _ _ ?_
      clear hK K
      refine W.condF (by simp only [go_sem]) ?_
      refine W.rseq (k := 2) rfl fun K hK => ?_
      simp only [go_sem, a4]
      refine hK _ _ _ ?_
      clear hK K
      refine W.condF (by simp only [go_sem]) ?_
      refine W.rseq (k := 2) rfl fun K hK => ?_
      simp only [go_sem, a4]
      refine hK _ _ _ ?_
      clear hK K
      refine W.condT (by simp only [go_sem]) ?_
      refine W.rseq (k := 15) rfl fun K hK => ?_
      simp only [go_sem, a3, a5, a6, hy1, hy2, hz1, hz2]
      refine hK _ _ _ ?_
      clear hK K
      refine W.ret ?_
      simp only [go_sem]
    · obtain ⟨l, hp, hw⟩ := f68 g hg hr a (by omega)
      have hz2 := rk_pos hb2 c2
      refine W.rseq (k := 2) rfl fun K hK => ?_
      simp only [go_sem, a4]
      refine hK _ _ _ ?_
      clear hK K
      refine W.condF (by simp only [go_sem]) ?_
      refine W.rseq (k := 2) rfl fun K hK => ?_
      simp only [go_sem, a4]
      refine hK _ _ _ ?_
      clear hK K
      refine W.condF (by simp only [go_sem]) ?_
      refine W.rseq (k := 2) rfl fun K hK => ?_
      simp only [go_sem, a4]
      refine hK _ _ _ ?_
      clear hK K
      refine W.condF (by simp only [go_sem]) ?_
      refine W.rseq (k := 2) rfl fun K hK => ?_
      simp only [go_sem, a4]
      refine hK _ _ _ ?_
      clear hK K
      refine W.condT (by simp only [go_sem]) ?_
      refine W.dseq (k := 16) rfl fun K hK => ?_
      simp only [go_sem, a1, a3, e3]
      refine VCall.frz 6 hp rfl ?_
      simp only [go_sem]
      obtain ⟨hl, ⟨_, hn⟩ | ⟨hne, hpt⟩⟩ := hw
      · exact absurd (cycB_iff.1 c3) hn
      refine VCall.frz 6 (f69 g hg hr a a l hl hne hpt) rfl ?_
      simp only [go_sem, a3, a6, hy2, hz2]
      refine hK _ _ _ _ (by kernel_rfl) ?_
      clear hK K
      refine W.ret ?_
      simp only [go_sem]
    · have hb := e2 c1
      refine W.rseq (k := 2) rfl fun K hK => ?_
      simp only [go_sem, a4]
      refine hK _ _ _ ?_
      clear hK K
      refine W.condT (by simp only [go_sem]) ?_
      refine W.rseq (k := 6) rfl fun K hK => ?_
      simp only [go_sem, e5, hb, a3]
      refine hK _ _ _ ?_
      clear hK K
      refine W.ret ?_
      simp only [go_sem]
  clear hK
  refine W.block (W.while (fun m t h n => ∃ (i : Nat) (b : Bool), m = M - i ∧ i ≤ M ∧ 0 < n ∧ ((∀ j, j < M → zR R1 j = false ∧ zR R2 j = false ∧ cycB g j = false) → b = true) ∧ h 0 = some (.cells [eGr g]) ∧ (t 1 = .ptr 0 0 0 ∧ t 3 = .int .i64 a ∧ t 4 = .int .i64 k ∧ t 5 = .ro (R1.map eFc) ∧ t 6 = .ro (R2.map eFc)) ∧ t 50 = .int .i64 M ∧ t 51 = .int .i64 i ∧ t 7 = .bool b) M
    ⟨0, true, by simp, by simp, by omega, fun _ => rfl, by simp only [go_sem], ⟨rfl, rfl, rfl, rfl, rfl⟩, by simp only [go_sem, hMn], rfl, rfl⟩ fun m t h n ⟨i, b, i1, i2, i3, i4, i5, i6, i7, i8, i9⟩ => ?_)
  have i6' := i6
  obtain ⟨a1, a3, a4, a5, a6⟩ := i6'
  refine W.rseq (k := 1) rfl fun K hK => ?_
  simp only [go_sem, i7, i8]
  refine hK _ _ _ ?_
  clear hK K
  refine W.seq ?_
  refine W.cond rfl (fun hc => ?_) fun hc => ?_
  · refine W.skip ?_
    simp only [go_sem]
    have hi : i < M := by simp at hc; omega
    obtain ⟨l, hp, hw⟩ := f68 g hg hr i (by omega)
    obtain ⟨y1, hy1⟩ := fc_get (l := R1) (n := (i : Int)) (by omega) (by omega)
    obtain ⟨y2, hy2⟩ := fc_get (l := R2) (n := (i : Int)) (by omega) (by omega)
    rw [Int.toNat_natCast] at hy1 hy2
    refine W.seqk fun K hK => ?_
    have nx2 : ∀ (t' : Fr) (h' : Heap) (n' : Nat) (b : Bool), 0 < n' → ((∀ j, j < M → zR R1 j = false ∧ zR R2 j = false ∧ cycB g j = false) → b = true) → h' 0 = some (.cells [eGr g]) → (t' 1 = .ptr 0 0 0 ∧ t' 3 = .int .i64 a ∧ t' 4 = .int .i64 k ∧ t' 5 = .ro (R1.map eFc) ∧ t' 6 = .ro (R2.map eFc)) → t' 50 = .int .i64 M → t' 51 = .int .i64 i → t' 7 = .bool b → K t' h' n' := by
      intro t' h' n' b e1 e2 e3 e4 e5 e6 e7
      refine hK _ _ _ ?_
      clear hK K
      refine W.region (k := 2) rfl ?_
      simp only [go_sem, e6]
      refine ⟨M - (i + 1), by omega, i + 1, b, rfl, by omega, by omega, e2, e3, e4, e5, ?_, e7⟩
      rw [wrap64 (by omega) (by omega)]; rfl
    clear hK
    refine W.block ?_
    refine W.rseq (k := 2) rfl fun K hK => ?_
    simp only [go_sem, i8]
    refine hK _ _ _ ?_
    clear hK K
    refine W.region (k := 25) rfl ?_
    cases hb : b
    · simp only [go_sem, i9, hb]
      exact nx2 _ _ _ false (by omega) (fun h => by rw [hb] at i4; exact i4 h) i5 i6 i7 i8 rfl
    cases hz1 : zR R1 i with
    | true =>
      have hq := rk_zero hz1
      simp only [go_sem, i9, hb, a5, i8, hy1, hq]
      exact nx2 _ _ _ false (by omega) (fun h => by have := (h i hi).1; rw [hz1] at this; cases this) i5 i6 i7 i8 rfl
    | false =>
    cases hz2 : zR R2 i with
    | true =>
      have hq := rk_zero hz2
      simp only [go_sem, i9, hb, a5, a6, i8, hy1, hy2, rk_pos hb1 hz1, hq]
      exact nx2 _ _ _ false (by omega) (fun h => by have := (h i hi).2.1; rw [hz2] at this; cases this) i5 i6 i7 i8 rfl
    | false =>
    simp only [go_sem, i9, hb, a1, a5, a6, i8, i5, hy1, hy2, rk_pos hb1 hz1, rk_pos hb2 hz2]
    refine VCall.frz 6 hp rfl ?_
    have hw0 : decide ((l.length : Int) = 0) = !cycB g i := by
      rw [← wb_pos hw]
      by_cases e : (l.length : Int) = 0
      · rw [decide_eq_true e, decide_eq_false (by omega)]; rfl
      · rw [decide_eq_false e, decide_eq_true (by omega)]; rfl
    simp only [go_sem, hw0]
    exact nx2 _ _ _ (!cycB g i) (by omega) (fun h => by rw [(h i hi).2.2]; rfl) i5 i6 i7 i8 rfl
  · refine W.exit ?_
    simp only [go_sem]
    exact nx _ _ _ b (by omega) i4 i5 i6 i9

end Go.Av

