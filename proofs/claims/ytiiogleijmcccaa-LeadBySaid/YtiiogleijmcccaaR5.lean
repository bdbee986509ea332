/-
  Layer 10, the document's answer: do facts show who is reached? Conditions: none.
-/
import Derived.Test.YtiiogleijmcccaaR4
namespace Go.Av
open Go.Proofs
set_option maxRecDepth 100000
set_option linter.unusedSimpArgs false
set_option linter.unusedVariables false

theorem f41 (g : Gr) (hg : g.Small) (l : List Fc) (hl : l.length < 2 ^ 60) : PF pg Tq 41 [.agg (eGr g), .ro (l.map eFc)] (.bool (reachShows g l)) := by
  have hg1 : g.prods.length < 2 ^ 60 := hg.1
  refine Fb ?_
  refine FH.of (N := 106) (rs := #[.tmp 4]) Try.func41 rfl rfl (of_decide_eq_true rfl) rfl (by decide) ?_
  refine W.rseq (k := 2) rfl fun K hK => ?_
  simp only [go_sem]
  refine hK _ _ _ ?_
  clear hK K
  refine W.seq ?_
  refine W.rseq (k := 28) rfl fun K hK => ?_
  have out : reachShows g l = false → ∀ t h n, t 35 = .bool true → K t h n := by
    intro hf t h n e
    refine hK _ _ _ ?_
    clear hK K
    refine W.condT (by simp only [go_sem, e]) ?_
    refine W.rseq (k := 1) rfl fun K hK => ?_
    simp only [go_sem]
    refine hK _ _ _ ?_
    clear hK K
    refine W.ret ?_
    simp only [go_sem]
    rw [hf]
  simp only [go_sem]
  refine VCall.frz 6 (f35 g hg) rfl ?_
  cases hr : right g
  · simp only [go_sem]
    exact out (by simp [reachShows, hr]) _ _ _ rfl
  by_cases hnl : ¬ (l.length : Int) = g.nons
  · simp only [go_sem, show decide ((l.length : Int) = g.nons) = false by simp [hnl]]
    exact out (by simp [reachShows, hnl]) _ _ _ rfl
  have hlen : (l.length : Int) = g.nons := Classical.not_not.1 hnl
  clear hnl
  obtain ⟨⟨hn1, hn2⟩, _, ⟨hs1, hs2⟩, hp60, hright⟩ := right_in hr
  have hIn : g.In l := right_In hr hlen
  obtain ⟨b, hb⟩ := fc_get (l := l) hs1 (show g.start < l.length by omega)
  have hgd : l.getD g.start.toNat (0, 0) = (rk l g.start, b) := by rw [List.getD_eq_getElem?_getD, hb]; rfl
  simp only [go_sem, show decide ((l.length : Int) = g.nons) = true by simp [hlen], hs1, show g.start < (l.length : Int) by omega, hb]
  by_cases hst : ¬ rk l g.start = 1
  · simp only [go_sem, show decide (rk l g.start = 1) = false by simp [hst]]
    exact out (by unfold reachShows; rw [hgd]; simp [hst]) _ _ _ rfl
  have hst1 : rk l g.start = 1 := Classical.not_not.1 hst
  simp only [go_sem, hst1, hs1, show g.start < (l.length : Int) by omega, hb]
  by_cases hsb : ¬ b = 0
  · refine out (by unfold reachShows; rw [hgd]; simp [hsb]) _ _ _ ?_
    simp only [go_sem, show decide (b = 0) = false by simp [hsb]]
  have hsb' : b = 0 := Classical.not_not.1 hsb
  clear hst hsb out
  have hpre : reachShows g l = allIdx (showR g l) l := by
    unfold reachShows; rw [hgd]; simp [hr, hlen, hst1, hsb']
  refine hK _ _ _ ?_
  clear hK K
  refine W.condF (by simp only [go_sem, hsb']) ?_
  refine W.skip ?_
  simp only [go_sem]
  refine W.seq ?_
  refine W.rseq (k := 1) rfl fun K hK => ?_
  simp only [go_sem]
  refine hK _ _ _ ?_
  clear hK K
  refine W.block (W.while (fun m t h n => ∃ k : Nat, m = l.length - k ∧ k ≤ l.length ∧ 0 < n ∧ t 1 = .ro (l.map eFc) ∧ t 2 = .ptr 0 0 0 ∧ t 5 = .int .i64 k ∧ h 0 = some (.cells [eGr g]) ∧ Upto (showR g l) l k) l.length
    ⟨0, by simp, by simp, by omega, rfl, rfl, rfl, by simp only [go_sem], Upto.zero⟩ fun m t h n ⟨k, i1, i2, i0, i3, i4, i7, i8, i9⟩ => ?_)
  refine W.seq ?_
  refine W.rseq (k := 4) rfl fun K hK => ?_
  simp only [go_sem, i4, i7, i8, ← hlen]
  refine hK _ _ _ ?_
  clear hK K
  refine W.cond rfl (fun hc => ?_) fun hc => ?_
  · refine W.skip ?_
    simp only [go_sem]
    have hk : k < l.length := by simp at hc; omega
    obtain ⟨f, hf⟩ := get_some hk
    have z0 : ∀ i, ¬ (0 = n + i) := fun i => by omega
    have bad : showR g l k f = false → allIdx (showR g l) l = false := fun e => all_false hf e
    refine W.seq (W.block ?_)
    refine W.rseq (k := 6) rfl fun K hK => ?_
    simp only [go_sem, i3, i7, hf]
    refine hK _ _ _ ?_
    clear hK K
    refine W.seq ?_
    refine W.rseq (k := 14) rfl fun K hK => ?_
    by_cases cs : (k : Int) = g.start
    · simp only [go_sem, i4, i7, z0, i8, cs]
      refine hK _ _ _ ?_
      clear hK K
      refine W.condT (by simp only [go_sem]) ?_
      refine W.exit ?_
      simp only [go_sem]
      refine W.region (k := 3) rfl ?_
      simp only [go_sem, i7]
      refine ⟨l.length - (k + 1), by omega, k + 1, rfl, by omega, by omega, i3, i4, ?_, by simp only [go_sem, z0, i8], i9.succ hf (by simp [showR, cs])⟩
      rw [wrap64 (by omega) (by omega)]; rfl
    simp only [go_sem, i4, i7, z0, i8, show decide ((k : Int) = g.start) = false by simp [cs]]
    by_cases cz : f.1 = 0 ∧ f.2 = 0
    · simp only [go_sem, cz.1, cz.2]
      refine hK _ _ _ ?_
      clear hK K
      refine W.condT (by simp only [go_sem, cz.2]) ?_
      refine W.exit ?_
      simp only [go_sem]
      refine W.region (k := 3) rfl ?_
      simp only [go_sem, i7]
      refine ⟨l.length - (k + 1), by omega, k + 1, rfl, by omega, by omega, i3, i4, ?_, by simp only [go_sem, z0, i8], i9.succ hf (by simp [showR, cz])⟩
      rw [wrap64 (by omega) (by omega)]; rfl
    have hz : (decide (f.1 = 0) && decide (f.2 = 0)) = false := by
      by_cases e : f.1 = 0
      · simp [e]; exact fun h => cz ⟨e, h⟩
      · simp [e]
    have mid : ∀ (t' : Fr) (h' : Heap) (n' : Nat), t' 59 = .bool false → n < n' → t' 1 = .ro (l.map eFc) → t' 2 = .ptr 0 0 0 → t' 5 = .int .i64 k → t' 6 = .ptr (n + 8) 0 0 → h' 0 = some (.cells [eGr g]) → h' (n + 8) = some (.cells [eFc f]) → K t' h' n' := by
      intro t' h' n' e59 hn' e1 e2 e5 e6 m0 m6
      refine hK _ _ _ ?_
      clear hK K
      refine W.condF (by simp only [go_sem, e59]) ?_
      refine W.skip ?_
      simp only [go_sem]
      refine W.seq ?_
      refine W.rseq (k := 27) rfl fun K hK => ?_
      have o8 : showR g l k f = false → ∀ (t2 : Fr) (h2 : Heap) (n2 : Nat), t2 86 = .bool true → K t2 h2 n2 := by
        intro hsf t2 h2 n2 e
        refine hK _ _ _ ?_
        clear hK K
        refine W.condT (by simp only [go_sem, e]) ?_
        refine W.rseq (k := 1) rfl fun K hK => ?_
        simp only [go_sem]
        refine hK _ _ _ ?_
        clear hK K
        refine W.ret ?_
        simp only [go_sem]
        rw [hpre, bad (by exact hsf)]
      simp only [go_sem, e1, e2, e5, e6, m0, m6]
      by_cases c1 : f.1 ≤ 0
      · simp only [go_sem, show decide (f.1 ≤ 0) = true by simp [c1]]
        exact o8 (by simp [showR, cs, hz]; omega) _ _ _ rfl
      simp only [go_sem, show decide (f.1 ≤ 0) = false by simp [c1], e1, e2, e5, e6, m0, m6]
      by_cases c2 : f.2 < 0
      · simp only [go_sem, show decide (f.2 < 0) = true by simp [c2]]
        exact o8 (by simp [showR, cs, hz]; omega) _ _ _ rfl
      simp only [go_sem, show decide (f.2 < 0) = false by simp [c2], e1, e2, e5, e6, m0, m6]
      by_cases c3 : (g.prods.length : Int) ≤ f.2
      · simp only [go_sem, show decide ((g.prods.length : Int) ≤ f.2) = true by simp [c3]]
        exact o8 (by simp [showR, cs, hz, List.getElem?_eq_none (show g.prods.length ≤ f.2.toNat by omega)]) _ _ _ rfl
      obtain ⟨p, hp⟩ := get_some (show f.2.toNat < g.prods.length by omega)
      have hm : p ∈ g.prods := List.mem_of_getElem? hp
      obtain ⟨⟨hl0, hl1⟩, hin⟩ := hIn p hm
      obtain ⟨b2, hb2⟩ := fc_get hl0 hl1
      have hval : showR g l k f = (decide (1 ≤ rk l p.left) && decide (rk l p.left < f.1) && stands p k) := by
        simp [showR, cs, hz, hp, show 1 ≤ f.1 by omega, show 0 ≤ f.2 by omega]
      simp only [go_sem, show decide ((g.prods.length : Int) ≤ f.2) = false by simp [c3], e1, e2, e5, e6, m0, m6, hp, show 0 ≤ f.2 by omega]
      refine VCall.frz 6 (f92 p k (hg.2 p hm)) rfl ?_
      cases hs : stands p k
      · simp only [go_sem, hs]
        exact o8 (by rw [hval, hs]; simp) _ _ _ rfl
      simp only [go_sem, hs]
      clear o8
      refine hK _ _ _ ?_
      clear hK K
      refine W.condF (by simp only [go_sem]) ?_
      refine W.skip ?_
      simp only [go_sem]
      refine W.rseq (k := 12) rfl fun K hK => ?_
      simp only [go_sem, e1, e2, e5, e6, m0, m6, hp, show 0 ≤ f.2 by omega, hl0, hl1, hb2]
      refine hK _ _ _ ?_
      clear hK K
      refine W.rseq (k := 8) rfl fun K hK => ?_
      simp only [go_sem, e1, e2, e5, e6, m0, m6]
      by_cases c4 : rk l p.left < 1
      · simp only [go_sem, show decide (rk l p.left < 1) = true by simp [c4]]
        refine hK _ _ _ ?_
        clear hK K
        refine W.condT (by simp only [go_sem]) ?_
        refine W.rseq (k := 1) rfl fun K hK => ?_
        simp only [go_sem]
        refine hK _ _ _ ?_
        clear hK K
        refine W.ret ?_
        simp only [go_sem]
        rw [hpre, bad (by rw [hval]; simp; omega)]
      simp only [go_sem, show decide (rk l p.left < 1) = false by simp; omega, e1, e2, e5, e6, m0, m6]
      by_cases c5 : f.1 ≤ rk l p.left
      · refine hK _ _ _ ?_
        clear hK K
        refine W.condT (by simp only [go_sem, c5]) ?_
        refine W.rseq (k := 1) rfl fun K hK => ?_
        simp only [go_sem]
        refine hK _ _ _ ?_
        clear hK K
        refine W.ret ?_
        simp only [go_sem]
        rw [hpre, bad (by rw [hval]; simp; omega)]
      refine hK _ _ _ ?_
      clear hK K
      refine W.condF (by simp only [go_sem, c5]) ?_
      refine W.skip ?_
      simp only [go_sem]
      refine W.region (k := 3) rfl ?_
      simp only [go_sem, e5]
      refine ⟨l.length - (k + 1), by omega, k + 1, rfl, by omega, by omega, e1, e2, ?_, m0, i9.succ hf (by rw [hval, hs]; simp; omega)⟩
      rw [wrap64 (by omega) (by omega)]; rfl
    clear hK
    by_cases ca : f.1 = 0
    · have cb : ¬ f.2 = 0 := fun h => cz ⟨ca, h⟩
      simp only [go_sem, ca, show decide (f.2 = 0) = false by simp [cb]]
      exact mid _ _ _ rfl (by omega) i3 i4 i7 rfl (by simp only [go_sem, z0, i8]) (by simp only [go_sem, ca])
    · simp only [go_sem, show decide (f.1 = 0) = false by simp [ca]]
      exact mid _ _ _ rfl (by omega) i3 i4 i7 rfl (by simp only [go_sem, z0, i8]) (by simp only [go_sem])
  · refine W.exit ?_
    simp only [go_sem]
    refine W.rseq (k := 1) rfl fun K hK => ?_
    simp only [go_sem]
    refine hK _ _ _ ?_
    clear hK K
    refine W.ret ?_
    simp only [go_sem]
    have hk : k = l.length := by simp at hc; omega
    subst hk
    rw [hpre, i9.all]

end Go.Av

