/-
  Layer 9's second statement: the walk. Conditions: none.
-/
import Derived.Test.YtiiogleijmcccaaL1
import Derived.Test.YtiiogleijmcccaaC9c
namespace Go.Av
open Go.Proofs
set_option maxRecDepth 100000
set_option linter.unusedSimpArgs false
set_option linter.unusedVariables false

theorem f4 (g : Gr) (hg : g.Small) (l : List Fc) (hl : l.length < 2 ^ 60) (terms : Bool) : FH pg Tq 4 [.agg (eGr g), .ro (l.map eFc), .bool terms] h0 0 fun r _ _ => r = .bool true := by
  refine FH.of (N := 75) (rs := #[.tmp 6]) Try.func4 rfl rfl (of_decide_eq_true rfl) rfl (by decide) ?_
  refine W.rseq (k := 2) rfl fun K hK => ?_
  simp only [go_sem]
  refine hK _ _ _ ?_
  clear hK K
  refine W.seq ?_
  refine W.rseq (k := 2) rfl fun K hK => ?_
  simp only [go_sem]
  refine VCall.frz 6 f27 rfl ?_
  try simp only [go_sem]
  refine hK _ _ _ ?_
  clear hK K
  refine W.condF (by simp only [go_sem]) ?_
  refine W.skip ?_
  simp only [go_sem]
  refine W.seq ?_
  refine W.rseq (k := 12) rfl fun K hK => ?_
  have out : ∀ t h n, t 23 = .bool true → K t h n := by
    intro t h n e
    refine hK _ _ _ ?_
    clear hK K
    refine W.condT (by simp only [go_sem, e]) ?_
    refine W.rseq (k := 1) rfl fun K hK => ?_
    simp only [go_sem]
    refine hK _ _ _ ?_
    clear hK K
    refine W.ret ?_
    simp only [go_sem]
  simp only [go_sem]
  refine VCall.frz 6 (f28 g hg) rfl ?_
  rcases Bool.eq_false_or_eq_true (large g) with hL | hL
  · simp only [go_sem, hL]
    exact out _ _ _ rfl
  simp only [hL]
  by_cases h100 : (100 : Int) < l.length
  · have h' : decide ((100 : Int) < l.length) = true := by simp [h100]
    simp only [go_sem, h']
    exact out _ _ _ rfl
  have h' : decide ((100 : Int) < l.length) = false := by simp [h100]
  simp only [go_sem, h']
  refine VCall.frz 6 (f35 g hg) rfl ?_
  cases hr : right g
  · simp only [go_sem]
    exact out _ _ _ rfl
  clear out
  simp only [go_sem]
  refine hK _ _ _ ?_
  clear hK K
  refine W.condF (by simp only [go_sem]) ?_
  refine W.skip ?_
  simp only [go_sem]
  obtain ⟨hlen, ⟨b, hb⟩, hsh, hcl⟩ := ranks_fin (terms := terms) hr
  refine W.rseq (k := 3) rfl fun K hK => ?_
  simp only [go_sem]
  refine VCall.frz 6 (OwnFc.pf (f30 g hg)) rfl ?_
  try simp only [go_sem]
  refine hK _ _ _ ?_
  clear hK K
  refine W.seqk fun K hK => ?_
  refine W.rseq (k := 1) rfl fun K hK => ?_
  simp only [go_sem]
  refine hK _ _ _ ?_
  clear hK K
  have mid : ∀ t (h : Heap) n, t 1 = .ro (l.map eFc) → t 2 = .bool terms → t 3 = .ptr 0 0 0 → t 7 = .ro ((ranksL g terms).map eFc) → h 0 = some (.cells [eGr g]) → 1 ≤ n → K t h n := by
    intro t h n e1 e2 e3 e7 m0 hn
    refine hK _ _ _ ?_
    clear hK K
    refine W.seq ?_
    refine W.rseq (k := 12) rfl fun K hK => ?_
    simp only [go_sem, e1, e2, e3, e7, m0, hlen]
    refine VCall.frz 6 (f33 g hg _ (ranksL_len g terms) terms) rfl ?_
    simp only [go_sem, ranks_shows hr]
    refine hK _ _ _ ?_
    clear hK K
    refine W.condF (by simp only [go_sem]) ?_
    refine W.skip ?_
    simp only [go_sem]
    refine W.seq ?_
    refine W.rseq (k := 5) rfl fun K hK => ?_
    simp only [go_sem, e1, e2, e3, m0]
    refine VCall.frz 6 (f33 g hg l hl terms) rfl ?_
    simp only [go_sem]
    refine hK _ _ _ ?_
    clear hK K
    cases hs : shows g l terms
    · refine W.condT (by simp only [go_sem]) ?_
      refine W.rseq (k := 1) rfl fun K hK => ?_
      simp only [go_sem]
      refine hK _ _ _ ?_
      clear hK K
      refine W.ret ?_
      simp only [go_sem]
    refine W.condF (by simp only [go_sem]) ?_
    refine W.skip ?_
    simp only [go_sem]
    obtain ⟨_, hll, hsl⟩ := shows_sh hs
    refine W.seq ?_
    refine W.rseq (k := 3) rfl fun K hK => ?_
    simp only [go_sem, e1]
    refine hK _ _ _ ?_
    clear hK K
    refine W.block (W.while (fun m t h n => ∃ k : Nat, m = l.length - k ∧ k ≤ l.length ∧ t 7 = .ro ((ranksL g terms).map eFc) ∧ t 46 = .ro (l.map eFc) ∧ t 47 = .int .i64 l.length ∧ t 48 = .int .i64 k) l.length ⟨0, by simp, by simp, e7, rfl, rfl, rfl⟩ fun m t h n ⟨k, i1, i2, i3, i4, i5, i6⟩ => ?_)
    refine W.rseq (k := 1) rfl fun K hK => ?_
    simp only [go_sem, i5, i6]
    refine hK _ _ _ ?_
    clear hK K
    refine W.seq ?_
    refine W.cond rfl (fun hc => ?_) fun hc => ?_
    · refine W.skip ?_
      simp only [go_sem]
      have hk : k < l.length := by simp at hc; omega
      obtain ⟨f, hf⟩ := get_some hk
      have hko : k < (ranksL g terms).length := by omega
      obtain ⟨y, hy⟩ := get_some hko
      have hlaw : 0 < f.1 → y.1 ≠ 0 ∧ y.1 ≤ f.1 := fun h => by
        have h1 := least hs (rk l k).toNat (k : Int) (by omega) (by rw [rk_get hf]; omega) (Nat.le_refl _)
        rw [rk_get hf, rk_get hy] at h1
        omega
      refine W.seq (W.block ?_)
      refine W.rseq (k := 6) rfl fun K hK => ?_
      simp only [go_sem, i4, i6, hf]
      refine hK _ _ _ ?_
      clear hK K
      refine W.dseq (k := 21) rfl fun K hK => ?_
      by_cases c1 : 0 < f.1
      · have c1' : decide (0 < f.1) = true := by simp [c1]
        have c2 : decide (y.1 = 0) = false := by simp [(hlaw c1).1]
        have c3 : decide (f.1 < y.1) = false := by simp; exact (hlaw c1).2
        simp only [go_sem, c1', c2, c3, i3, i6, hy]
        refine hK _ _ _ _ (by kernel_rfl) ?_
        clear hK K
        refine W.condF (by simp only [go_sem]) ?_
        refine W.skip ?_
        simp only [go_sem]
        refine W.region (k := 2) rfl ?_
        simp only [go_sem, i6]
        refine ⟨l.length - (k + 1), by omega, k + 1, rfl, by omega, i3, i4, i5, ?_⟩
        rw [wrap64 (by omega) (by omega)]; rfl
      · have c1' : decide (0 < f.1) = false := by simp [c1]
        simp only [go_sem, c1', i3, i6]
        refine hK _ _ _ _ (by kernel_rfl) ?_
        clear hK K
        refine W.condF (by simp only [go_sem]) ?_
        refine W.skip ?_
        simp only [go_sem]
        refine W.region (k := 2) rfl ?_
        simp only [go_sem, i6]
        refine ⟨l.length - (k + 1), by omega, k + 1, rfl, by omega, i3, i4, i5, ?_⟩
        rw [wrap64 (by omega) (by omega)]; rfl
    · refine W.exit ?_
      simp only [go_sem]
      refine W.rseq (k := 1) rfl fun K hK => ?_
      simp only [go_sem]
      refine hK _ _ _ ?_
      clear hK K
      refine W.ret ?_
      simp only [go_sem]
  cases terms
  · refine W.condF (by simp only [go_sem]) ?_
    refine W.skip ?_
    simp only [go_sem]
    exact mid _ _ _ rfl rfl rfl rfl (by simp only [go_sem]) (by omega)
  · refine W.condT (by simp only [go_sem]) ?_
    refine W.region (k := 3) rfl ?_
    simp only [go_sem]
    refine VCall.frz 6 (OwnFc.pf (f32 g hg)) rfl ?_
    try simp only [go_sem]
    exact mid _ _ _ rfl rfl rfl rfl (by simp only [go_sem]) (by omega)

end Go.Av

