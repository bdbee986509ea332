/-
  Layer 10's third statement: the walk. Conditions: none.
-/
import Derived.Test.YtiiogleijmcccaaL4
namespace Go.Av
open Go.Proofs
set_option maxRecDepth 100000
set_option linter.unusedSimpArgs false
set_option linter.unusedVariables false

theorem f8 (g : Gr) (hg : g.Small) : FH pg Tq 8 [.agg (eGr g)] h0 0 fun r _ _ => r = .bool true := by
  have hgl : g.prods.length < 2 ^ 60 := hg.1
  refine FH.of (N := 82) (rs := #[.tmp 2]) Try.func8 rfl rfl (of_decide_eq_true rfl) rfl (by decide) ?_
  refine W.rseq (k := 2) rfl fun K hK => ?_
  simp only [go_sem]
  refine hK _ _ _ ?_
  clear hK K
  refine W.seq ?_
  refine W.rseq (k := 2) rfl fun K hK => ?_
  simp only [go_sem]
  refine VCall.frz 6 f37 rfl ?_
  try simp only [go_sem]
  refine hK _ _ _ ?_
  clear hK K
  refine W.condF (by simp only [go_sem]) ?_
  refine W.skip ?_
  simp only [go_sem]
  refine W.seq ?_
  refine W.rseq (k := 7) rfl fun K hK => ?_
  have out : ∀ t h n, t 17 = .bool true → K t h n := by
    intro t h n e
    refine hK _ _ _ ?_
    clear hK K
    refine W.condT (by simp only [go_sem, e]) ?_
    refine W.rseq (k := 1) rfl fun K hK => ?_
    simp only [go_sem]
    refine hK _ _ _ ?_
    clear hK K
    refine W.ret ?_
    simp only [go_sem]
  simp only [go_sem]
  refine VCall.frz 6 (f28 g hg) rfl ?_
  rcases Bool.eq_false_or_eq_true (large g) with hL | hL
  · simp only [go_sem, hL]
    exact out _ _ _ rfl
  simp only [hL]
  simp only [go_sem]
  refine VCall.frz 6 (f35 g hg) rfl ?_
  cases hr : right g
  · simp only [go_sem]
    exact out _ _ _ rfl
  clear out
  simp only [go_sem]
  refine hK _ _ _ ?_
  clear hK K
  refine W.condF (by simp only [go_sem]) ?_
  refine W.skip ?_
  simp only [go_sem]
  obtain ⟨hlen, ⟨b, hb⟩, hrch, hcl⟩ := reach_fin hr
  obtain ⟨_, _, ⟨hs1, hs2⟩, _, _⟩ := right_in hr
  have hIn : g.In (reachL g) := right_In hr hlen
  obtain ⟨bs, hbs⟩ := fc_get (l := reachL g) hs1 (by omega)
  have hst := start_rank hrch hr
  rw [hst] at hbs
  refine W.rseq (k := 3) rfl fun K hK => ?_
  simp only [go_sem]
  refine VCall.frz 6 (OwnFc.pf (f38 g hg)) rfl ?_
  try simp only [go_sem]
  refine hK _ _ _ ?_
  clear hK K
  refine W.seq ?_
  refine W.rseq (k := 14) rfl fun K hK => ?_
  simp only [go_sem, hlen, hs1, hbs]
  refine hK _ _ _ ?_
  clear hK K
  refine W.condF (by simp only [go_sem]) ?_
  refine W.skip ?_
  simp only [go_sem]
  refine W.seq ?_
  refine W.rseq (k := 4) rfl fun K hK => ?_
  simp only [go_sem]
  refine hK _ _ _ ?_
  clear hK K
  refine W.block (W.while (fun m t h n => ∃ k : Nat, m = g.prods.length - k ∧ k ≤ g.prods.length ∧ t 3 = .ro ((reachL g).map eFc) ∧ t 35 = .ro (g.prods.map ePr) ∧ t 36 = .int .i64 g.prods.length ∧ t 37 = .int .i64 k) g.prods.length ⟨0, by simp, by simp, rfl, rfl, rfl, rfl⟩ fun m t h n ⟨k, i1, i2, i3, i4, i5, i6⟩ => ?_)
  refine W.rseq (k := 1) rfl fun K hK => ?_
  simp only [go_sem, i5, i6]
  refine hK _ _ _ ?_
  clear hK K
  refine W.seq ?_
  refine W.cond rfl (fun hc => ?_) fun hc => ?_
  · refine W.skip ?_
    simp only [go_sem]
    have hk : k < g.prods.length := by simp at hc; omega
    obtain ⟨p, hp⟩ := get_some hk
    have hm : p ∈ g.prods := List.mem_of_getElem? hp
    obtain ⟨⟨hl0, hl1⟩, hin⟩ := hIn p hm
    obtain ⟨b2, hb2⟩ := fc_get hl0 hl1
    have hpr : p.right.length < 2 ^ 60 := hg.2 p hm
    refine W.seq (W.block ?_)
    refine W.rseq (k := 4) rfl fun K hK => ?_
    simp only [go_sem, i4, i6, hp]
    refine hK _ _ _ ?_
    clear hK K
    refine W.rseq (k := 7) rfl fun K hK => ?_
    simp only [go_sem, i3, hl0, hb2]
    refine hK _ _ _ ?_
    clear hK K
    refine W.rseq (k := 4) rfl fun K hK => ?_
    simp only [go_sem]
    refine hK _ _ _ ?_
    clear hK K
    refine W.block (W.while (fun m t h n => ∃ q : Nat, m = p.right.length - q ∧ q ≤ p.right.length ∧ t 3 = .ro ((reachL g).map eFc) ∧ t 35 = .ro (g.prods.map ePr) ∧ t 36 = .int .i64 g.prods.length ∧ t 37 = .int .i64 k ∧ t 6 = .int .i64 (rk (reachL g) p.left) ∧ t 48 = .ro (p.right.map eSy) ∧ t 49 = .int .i64 p.right.length ∧ t 50 = .int .i64 q) p.right.length
      ⟨0, by simp, by simp, i3, i4, i5, i6, rfl, rfl, rfl, rfl⟩ fun m t h n ⟨q, j1, j2, j3, j4, j5, j6, j7, j8, j9, j10⟩ => ?_)
    refine W.rseq (k := 1) rfl fun K hK => ?_
    simp only [go_sem, j9, j10]
    refine hK _ _ _ ?_
    clear hK K
    refine W.seq ?_
    refine W.cond rfl (fun hc2 => ?_) fun hc2 => ?_
    · refine W.skip ?_
      simp only [go_sem]
      have hq : q < p.right.length := by simp at hc2; omega
      obtain ⟨s, hs⟩ := get_some hq
      have hsm : s ∈ p.right := List.mem_of_getElem? hs
      refine W.seq (W.block ?_)
      refine W.rseq (k := 4) rfl fun K hK => ?_
      simp only [go_sem, j8, j10, hs]
      refine hK _ _ _ ?_
      clear hK K
      refine W.rseq (k := 26) rfl fun K hK => ?_
      have nx : ∀ (t' : Fr) (h' : Heap) (n' : Nat), t' 79 = .bool false → t' 3 = .ro ((reachL g).map eFc) → t' 35 = .ro (g.prods.map ePr) → t' 36 = .int .i64 g.prods.length → t' 37 = .int .i64 k → t' 6 = .int .i64 (rk (reachL g) p.left) → t' 48 = .ro (p.right.map eSy) → t' 49 = .int .i64 p.right.length → t' 50 = .int .i64 q → K t' h' n' := by
        intro t' h' n' e79 e3 e35 e36 e37 e6 e48 e49 e50
        refine hK _ _ _ ?_
        clear hK K
        refine W.condF (by simp only [go_sem, e79]) ?_
        refine W.skip ?_
        simp only [go_sem]
        refine W.region (k := 2) rfl ?_
        simp only [go_sem, e50]
        refine ⟨p.right.length - (q + 1), by omega, q + 1, rfl, by omega, e3, e35, e36, e37, e6, e48, e49, ?_⟩
        rw [wrap64 (by omega) (by omega)]; rfl
      by_cases c1 : 0 < rk (reachL g) p.left
      · cases hsn : s.non
        · simp only [go_sem, j7, show decide (0 < rk (reachL g) p.left) = true by simp [c1], hsn]
          exact nx _ _ _ rfl j3 j4 j5 j6 j7 j8 j9 j10
        · have hyb := hin s hsm hsn
          obtain ⟨b3, hb3⟩ := fc_get hyb.1 hyb.2
          have hc3 := hcl (rk (reachL g) p.left + 1) p hm (by omega) (by omega) s hsm hsn
          have hbd := (reach_bd hr p.left).2
          have hwr : IntKind.wrap .i64 (rk (reachL g) p.left + 1) = rk (reachL g) p.left + 1 := wrap64 (by omega) (by omega)
          simp only [go_sem, j3, j7, show decide (0 < rk (reachL g) p.left) = true by simp [c1], hsn, hyb.1, hb3, hwr, show decide (rk (reachL g) s.n = 0) = false by simp; omega, show decide (rk (reachL g) p.left + 1 < rk (reachL g) s.n) = false by simp; omega]
          exact nx _ _ _ rfl j3 j4 j5 j6 j7 j8 j9 j10
      · simp only [go_sem, j7, show decide (0 < rk (reachL g) p.left) = false by simp; omega]
        exact nx _ _ _ rfl j3 j4 j5 j6 j7 j8 j9 j10
    · refine W.exit ?_
      simp only [go_sem]
      refine W.region (k := 2) rfl ?_
      simp only [go_sem, j6]
      refine ⟨g.prods.length - (k + 1), by omega, k + 1, rfl, by omega, j3, j4, j5, ?_⟩
      rw [wrap64 (by omega) (by omega)]; rfl
  · refine W.exit ?_
    simp only [go_sem]
    refine W.rseq (k := 1) rfl fun K hK => ?_
    simp only [go_sem]
    refine hK _ _ _ ?_
    clear hK K
    refine W.ret ?_
    simp only [go_sem]

end Go.Av

