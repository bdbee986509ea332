/-
  Layer 10's statements: the walks. Conditions: none.
-/
import Derived.Test.YtiiogleijmcccaaC10b
import Derived.Test.YtiiogleijmcccaaD1
namespace Go.Av
open Go.Proofs
set_option maxRecDepth 100000
set_option linter.unusedSimpArgs false
set_option linter.unusedVariables false

def gb : Gr := ⟨1, 3, 0, [⟨0, [⟨true, 1⟩]⟩, ⟨1, [⟨false, 0⟩, ⟨true, 0⟩]⟩, ⟨2, [⟨true, 0⟩]⟩]⟩

theorem gb_small : gb.Small := by
  refine ⟨by decide, fun p hp => ?_⟩
  simp [gb] at hp
  rcases hp with rfl | rfl | rfl <;> decide

theorem gb_reach : reachL gb = [(1, 0), (2, 0), (0, 0)] := by kernel_rfl

theorem f37 : PF pg Tq 37 [] (.bool true) := by
  refine Fb ?_
  refine FH.of (N := 46) (rs := #[.tmp 0]) Try.func37 rfl rfl (of_decide_eq_true rfl) rfl (by decide) ?_
  refine W.rseq (k := 1) rfl fun K hK => ?_
  simp only [go_sem]
  refine hK _ _ _ ?_
  clear hK K
  refine W.rseq (k := 14) rfl fun K hK => ?_
  simp only [go_sem, show (0 : Nat) < 2 by omega, show (0 : Nat) < 3 by omega, show ¬ (2 : Nat) = 0 by omega, show ¬ (3 : Nat) = 0 by omega, show ¬ (1 : Nat) = 0 by omega, show (1 : Nat) < 2 by omega, show (0 : Nat) < 1 by omega, show (1 : Nat) < 3 by omega, show (2 : Nat) < 3 by omega]
  refine hK _ _ _ ?_
  clear hK K
  have h38 := f38 gb gb_small
  rw [gb_reach] at h38
  refine W.rseq (k := 3) rfl fun K hK => ?_
  simp only [go_sem]
  refine VCall.fcq 20 h38 (by kernel_rfl) (fun h => by cases h) ?_
  simp only [go_sem]
  refine hK _ _ _ ?_
  clear hK K
  refine W.rseq (k := 30) rfl fun K hK => ?_
  simp only [go_sem, show (0 : Nat) < 3 by omega, show (1 : Nat) < 3 by omega, show (2 : Nat) < 3 by omega, show ¬ (3 : Nat) = 0 by omega, List.map_cons, List.map_nil]
  refine VCall.frzq 20 (by kernel_rfl) (f29 [(1, 0), (2, 0), (0, 0)] [(1, 0), (2, 0), (0, 0)] (by decide) (by decide)) ?_
  simp only [go_sem, show (([(1, 0), (2, 0), (0, 0)] : List Fc) == [(1, 0), (2, 0), (0, 0)]) = true from by kernel_rfl]
  refine VCall.frzq 20 (by kernel_rfl) (f40 gb gb_small [(1, 0), (2, 0), (0, 0)] (by decide)) ?_
  simp only [go_sem, show reachShows gb [(1, 0), (2, 0), (0, 0)] = true from by kernel_rfl, show (0 : Nat) < 3 by omega, show (1 : Nat) < 3 by omega, show (2 : Nat) < 3 by omega, show ¬ (3 : Nat) = 0 by omega]
  refine VCall.frzq 20 (by kernel_rfl) (f40 gb gb_small [(0, 0), (0, 0), (0, 0)] (by decide)) ?_
  simp only [go_sem, show reachShows gb [(0, 0), (0, 0), (0, 0)] = false from by kernel_rfl, show (0 : Nat) < 3 by omega, show (1 : Nat) < 3 by omega, show (2 : Nat) < 3 by omega, show ¬ (3 : Nat) = 0 by omega]
  refine VCall.frzq 20 (by kernel_rfl) (f40 gb gb_small [(1, 0), (0, 0), (2, 2)] (by decide)) ?_
  simp only [go_sem, show reachShows gb [(1, 0), (0, 0), (2, 2)] = false from by kernel_rfl]
  refine hK _ _ _ ?_
  clear hK K
  refine W.ret ?_
  simp only [go_sem]

theorem reachL_len (g : Gr) : (reachL g).length < 2 ^ 60 := by
  cases h : right g with
  | false => simp [reachL, h]
  | true =>
    obtain ⟨⟨_, hn⟩, _⟩ := right_in h
    have := (reach_fin h).1
    omega

theorem f6 (g : Gr) (hg : g.Small) (l : List Fc) (hl : l.length < 2 ^ 60) : FH pg Tq 6 [.agg (eGr g), .ro (l.map eFc)] h0 0 fun r _ _ => r = .bool true := by
  have e : (reachL g == reachL g) = true := by simp
  have e2 : (reachShows g l == reachShows g l) = true := by simp
  have h39 : PF pg Tq 39 [.agg (eGr g)] (.ro ((reachL g).map eFc)) := by
    rw [reach_same]; exact OwnFc.pf (f39 g hg)
  refine FH.of (N := 28) (rs := #[.tmp 4]) Try.func6 rfl rfl (of_decide_eq_true rfl) rfl (by decide) ?_
  refine W.rseq (k := 2) rfl fun K hK => ?_
  simp only [go_sem]
  refine hK _ _ _ ?_
  clear hK K
  refine W.seq ?_
  refine W.rseq (k := 2) rfl fun K hK => ?_
  simp only [go_sem]
  refine VCall.frz 6 f37 rfl ?_
  try simp only [go_sem]
  refine hK _ _ _ ?_
  clear hK K
  refine W.condF (by simp only [go_sem]) ?_
  refine W.skip ?_
  simp only [go_sem]
  refine W.seq ?_
  refine W.rseq (k := 7) rfl fun K hK => ?_
  have out : ∀ t h n, t 13 = .bool true → K t h n := by
    intro t h n e
    refine hK _ _ _ ?_
    clear hK K
    refine W.condT (by simp only [go_sem, e]) ?_
    refine W.rseq (k := 1) rfl fun K hK => ?_
    simp only [go_sem]
    refine hK _ _ _ ?_
    clear hK K
    refine W.ret ?_
    simp only [go_sem]
  simp only [go_sem]
  refine VCall.frz 6 (f28 g hg) rfl ?_
  rcases Bool.eq_false_or_eq_true (large g) with hL | hL
  · simp only [go_sem, hL]
    exact out _ _ _ rfl
  simp only [hL]
  by_cases h100 : (100 : Int) < l.length
  · simp only [go_sem, show decide ((100 : Int) < l.length) = true by simp [h100]]
    exact out _ _ _ rfl
  simp only [go_sem, show decide ((100 : Int) < l.length) = false by simp [h100]]
  clear out
  refine hK _ _ _ ?_
  clear hK K
  refine W.condF (by simp only [go_sem]) ?_
  refine W.skip ?_
  simp only [go_sem]
  refine W.dseq (k := 15) rfl fun K hK => ?_
  simp only [go_sem, e, e2]
  refine VCall.frz 6 (OwnFc.pf (f38 g hg)) rfl ?_
  try simp only [go_sem, e, e2]
  refine VCall.frz 6 h39 rfl ?_
  try simp only [go_sem, e, e2]
  refine VCall.frz 6 (f29 _ _ (reachL_len g) (reachL_len g)) rfl ?_
  try simp only [go_sem, e, e2]
  refine VCall.frz 6 (f40 g hg l hl) rfl ?_
  try simp only [go_sem, e, e2]
  refine VCall.frz 6 (f41 g hg l hl) rfl ?_
  try simp only [go_sem, e, e2]
  refine hK _ _ _ _ (by kernel_rfl) ?_
  clear hK K
  refine W.ret ?_
  simp only [go_sem]

theorem f7 (g : Gr) (hg : g.Small) (l : List Fc) (hl : l.length < 2 ^ 60) : FH pg Tq 7 [.agg (eGr g), .ro (l.map eFc)] h0 0 fun r _ _ => r = .bool true := by
  refine FH.of (N := 68) (rs := #[.tmp 4]) Try.func7 rfl rfl (of_decide_eq_true rfl) rfl (by decide) ?_
  refine W.rseq (k := 2) rfl fun K hK => ?_
  simp only [go_sem]
  refine hK _ _ _ ?_
  clear hK K
  refine W.seq ?_
  refine W.rseq (k := 2) rfl fun K hK => ?_
  simp only [go_sem]
  refine VCall.frz 6 f37 rfl ?_
  try simp only [go_sem]
  refine hK _ _ _ ?_
  clear hK K
  refine W.condF (by simp only [go_sem]) ?_
  refine W.skip ?_
  simp only [go_sem]
  refine W.seq ?_
  refine W.rseq (k := 12) rfl fun K hK => ?_
  have out : ∀ t h n, t 21 = .bool true → K t h n := by
    intro t h n e
    refine hK _ _ _ ?_
    clear hK K
    refine W.condT (by simp only [go_sem, e]) ?_
    refine W.rseq (k := 1) rfl fun K hK => ?_
    simp only [go_sem]
    refine hK _ _ _ ?_
    clear hK K
    refine W.ret ?_
    simp only [go_sem]
  simp only [go_sem]
  refine VCall.frz 6 (f28 g hg) rfl ?_
  rcases Bool.eq_false_or_eq_true (large g) with hL | hL
  · simp only [go_sem, hL]
    exact out _ _ _ rfl
  simp only [hL]
  by_cases h100 : (100 : Int) < l.length
  · simp only [go_sem, show decide ((100 : Int) < l.length) = true by simp [h100]]
    exact out _ _ _ rfl
  simp only [go_sem, show decide ((100 : Int) < l.length) = false by simp [h100]]
  refine VCall.frz 6 (f35 g hg) rfl ?_
  cases hr : right g
  · simp only [go_sem]
    exact out _ _ _ rfl
  clear out
  simp only [go_sem]
  refine hK _ _ _ ?_
  clear hK K
  refine W.condF (by simp only [go_sem]) ?_
  refine W.skip ?_
  simp only [go_sem]
  obtain ⟨hlen, ⟨b, hb⟩, _⟩ := reach_fin hr
  refine W.rseq (k := 3) rfl fun K hK => ?_
  simp only [go_sem]
  refine VCall.frz 6 (OwnFc.pf (f38 g hg)) rfl ?_
  try simp only [go_sem]
  refine hK _ _ _ ?_
  clear hK K
  refine W.seq ?_
  refine W.rseq (k := 11) rfl fun K hK => ?_
  simp only [go_sem, hlen, reach_shows hr]
  refine VCall.frz 6 (f40 g hg _ (reachL_len g)) rfl ?_
  try simp only [go_sem, hlen, reach_shows hr]
  refine hK _ _ _ ?_
  clear hK K
  refine W.condF (by simp only [go_sem]) ?_
  refine W.skip ?_
  simp only [go_sem]
  refine W.seq ?_
  refine W.rseq (k := 4) rfl fun K hK => ?_
  simp only [go_sem]
  refine VCall.frz 6 (f40 g hg l hl) rfl ?_
  simp only [go_sem]
  refine hK _ _ _ ?_
  clear hK K
  cases hs : reachShows g l
  · refine W.condT (by simp only [go_sem]) ?_
    refine W.rseq (k := 1) rfl fun K hK => ?_
    simp only [go_sem]
    refine hK _ _ _ ?_
    clear hK K
    refine W.ret ?_
    simp only [go_sem]
  refine W.condF (by simp only [go_sem]) ?_
  refine W.skip ?_
  simp only [go_sem]
  obtain ⟨_, hll, _⟩ := reachShows_ch hs
  refine W.seq ?_
  refine W.rseq (k := 3) rfl fun K hK => ?_
  simp only [go_sem]
  refine hK _ _ _ ?_
  clear hK K
  refine W.block (W.while (fun m t h n => ∃ k : Nat, m = l.length - k ∧ k ≤ l.length ∧ t 5 = .ro ((reachL g).map eFc) ∧ t 39 = .ro (l.map eFc) ∧ t 40 = .int .i64 l.length ∧ t 41 = .int .i64 k) l.length ⟨0, by simp, by simp, rfl, rfl, rfl, rfl⟩ fun m t h n ⟨k, i1, i2, i3, i4, i5, i6⟩ => ?_)
  refine W.rseq (k := 1) rfl fun K hK => ?_
  simp only [go_sem, i5, i6]
  refine hK _ _ _ ?_
  clear hK K
  refine W.seq ?_
  refine W.cond rfl (fun hc => ?_) fun hc => ?_
  · refine W.skip ?_
    simp only [go_sem]
    have hk : k < l.length := by simp at hc; omega
    obtain ⟨f, hf⟩ := get_some hk
    have hko : k < (reachL g).length := by omega
    obtain ⟨y, hy⟩ := get_some hko
    have hlaw : 0 < f.1 → y.1 ≠ 0 ∧ y.1 ≤ f.1 := fun h => by
      have h1 := reach_least hs (rk l k).toNat (k : Int) (by omega) (by rw [rk_get hf]; omega) (Nat.le_refl _)
      rw [rk_get hf, rk_get hy] at h1
      omega
    refine W.seq (W.block ?_)
    refine W.rseq (k := 6) rfl fun K hK => ?_
    simp only [go_sem, i4, i6, hf]
    refine hK _ _ _ ?_
    clear hK K
    refine W.dseq (k := 21) rfl fun K hK => ?_
    by_cases c1 : 0 < f.1
    · have c1' : decide (0 < f.1) = true := by simp [c1]
      have c2 : decide (y.1 = 0) = false := by simp [(hlaw c1).1]
      have c3 : decide (f.1 < y.1) = false := by simp; exact (hlaw c1).2
      simp only [go_sem, c1', c2, c3, i3, i6, hy]
      refine hK _ _ _ _ (by kernel_rfl) ?_
      clear hK K
      refine W.condF (by simp only [go_sem]) ?_
      refine W.skip ?_
      simp only [go_sem]
      refine W.region (k := 2) rfl ?_
      simp only [go_sem, i6]
      refine ⟨l.length - (k + 1), by omega, k + 1, rfl, by omega, i3, i4, i5, ?_⟩
      rw [wrap64 (by omega) (by omega)]; rfl
    · have c1' : decide (0 < f.1) = false := by simp [c1]
      simp only [go_sem, c1', i3, i6]
      refine hK _ _ _ _ (by kernel_rfl) ?_
      clear hK K
      refine W.condF (by simp only [go_sem]) ?_
      refine W.skip ?_
      simp only [go_sem]
      refine W.region (k := 2) rfl ?_
      simp only [go_sem, i6]
      refine ⟨l.length - (k + 1), by omega, k + 1, rfl, by omega, i3, i4, i5, ?_⟩
      rw [wrap64 (by omega) (by omega)]; rfl
  · refine W.exit ?_
    simp only [go_sem]
    refine W.rseq (k := 1) rfl fun K hK => ?_
    simp only [go_sem]
    refine hK _ _ _ ?_
    clear hK K
    refine W.ret ?_
    simp only [go_sem]

end Go.Av

