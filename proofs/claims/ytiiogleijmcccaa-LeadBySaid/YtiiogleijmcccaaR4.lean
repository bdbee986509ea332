/-
  Layer 10: do facts show who is reached? Conditions: none.
-/
import Derived.Test.YtiiogleijmcccaaR3
namespace Go.Av
open Go.Proofs
set_option maxRecDepth 100000
set_option linter.unusedSimpArgs false
set_option linter.unusedVariables false

def allIdx (q : Nat → Fc → Bool) (l : List Fc) : Bool := l.zipIdx.all fun x => q x.2 x.1

theorem all_true {q : Nat → Fc → Bool} {l : List Fc} (h : ∀ j f, l[j]? = some f → q j f = true) : allIdx q l = true := by
  simp only [allIdx, List.all_eq_true]
  intro x hx
  obtain ⟨f, j⟩ := x
  exact h j f (List.mk_mem_zipIdx_iff_getElem?.1 hx)

theorem all_false {q : Nat → Fc → Bool} {l : List Fc} {j : Nat} {f : Fc} (hj : l[j]? = some f) (h : q j f = false) : allIdx q l = false := by
  rw [allIdx, List.all_eq_false]
  exact ⟨(f, j), List.mk_mem_zipIdx_iff_getElem?.2 hj, by simp [h]⟩

def showR (g : Gr) (l : List Fc) (x : Nat) (f : Fc) : Bool :=
  decide ((x : Int) = g.start) || (decide (f.1 = 0) && decide (f.2 = 0)) || (decide (1 ≤ f.1) && decide (0 ≤ f.2) && match g.prods[f.2.toNat]? with
    | some p => decide (1 ≤ rk l p.left) && decide (rk l p.left < f.1) && stands p x
    | none => false)

def reachShows (g : Gr) (l : List Fc) : Bool := right g && decide ((l.length : Int) = g.nons) && decide (l.getD g.start.toNat (0, 0) = (1, 0)) && allIdx (showR g l) l

def Upto (q : Nat → Fc → Bool) (l : List Fc) (k : Nat) : Prop := ∀ j f, j < k → l[j]? = some f → q j f = true

theorem Upto.succ {q : Nat → Fc → Bool} {l : List Fc} {k : Nat} {f : Fc} (h : Upto q l k) (hk : l[k]? = some f) (hf : q k f = true) : Upto q l (k + 1) := by
  intro j f' hj hf'
  by_cases e : j = k
  · subst e; rw [hk] at hf'; cases hf'; exact hf
  · exact h j f' (by omega) hf'

theorem Upto.all {q : Nat → Fc → Bool} {l : List Fc} (h : Upto q l l.length) : allIdx q l = true := all_true fun j f hj => h j f (List.getElem?_eq_some_iff.1 hj).1 hj

theorem Upto.zero {q : Nat → Fc → Bool} {l : List Fc} : Upto q l 0 := fun j f hj => by omega

theorem f40 (g : Gr) (hg : g.Small) (l : List Fc) (hl : l.length < 2 ^ 60) : PF pg Tq 40 [.agg (eGr g), .ro (l.map eFc)] (.bool (reachShows g l)) := by
  have hg1 : g.prods.length < 2 ^ 60 := hg.1
  refine Fb ?_
  refine FH.of (N := 85) (rs := #[.tmp 4]) Try.func40 rfl rfl (of_decide_eq_true rfl) rfl (by decide) ?_
  refine W.rseq (k := 2) rfl fun K hK => ?_
  simp only [go_sem]
  refine hK _ _ _ ?_
  clear hK K
  refine W.seq ?_
  refine W.rseq (k := 19) rfl fun K hK => ?_
  have out : reachShows g l = false → ∀ t h n, t 27 = .bool true → K t h n := by
    intro hf t h n e
    refine hK _ _ _ ?_
    clear hK K
    refine W.condT (by simp only [go_sem, e]) ?_
    refine W.rseq (k := 1) rfl fun K hK => ?_
    simp only [go_sem]
    refine hK _ _ _ ?_
    clear hK K
    refine W.ret ?_
    simp only [go_sem]
    rw [hf]
  simp only [go_sem]
  refine VCall.frz 6 (f87 g hg) rfl ?_
  cases hr : right g
  · simp only [go_sem]
    exact out (by simp [reachShows, hr]) _ _ _ rfl
  by_cases hnl : ¬ (l.length : Int) = g.nons
  · simp only [go_sem, show decide ((l.length : Int) = g.nons) = false by simp [hnl]]
    exact out (by simp [reachShows, hnl]) _ _ _ rfl
  have hlen : (l.length : Int) = g.nons := Classical.not_not.1 hnl
  clear hnl
  obtain ⟨⟨hn1, hn2⟩, _, ⟨hs1, hs2⟩, hp60, hright⟩ := right_in hr
  have hIn : g.In l := right_In hr hlen
  obtain ⟨b, hb⟩ := fc_get (l := l) hs1 (show g.start < l.length by omega)
  have hgd : l.getD g.start.toNat (0, 0) = (rk l g.start, b) := by rw [List.getD_eq_getElem?_getD, hb]; rfl
  simp only [go_sem, show decide ((l.length : Int) = g.nons) = true by simp [hlen], hs1, show g.start < (l.length : Int) by omega, hb]
  by_cases hst : ¬ (rk l g.start = 1 ∧ b = 0)
  · refine out ?_ _ _ _ ?_
    · unfold reachShows; rw [hgd]; simp [hst]
    · simp only [go_sem]
      by_cases c1 : rk l g.start = 1
      · have c2 : ¬ b = 0 := fun h => hst ⟨c1, h⟩
        simp [c1, c2]
      · simp [c1]
  have hst' : rk l g.start = 1 ∧ b = 0 := Classical.not_not.1 hst
  clear hst out
  have hpre : reachShows g l = allIdx (showR g l) l := by
    unfold reachShows; rw [hgd]; simp [hr, hlen, hst']
  refine hK _ _ _ ?_
  clear hK K
  refine W.condF (by simp only [go_sem, hst'.1, hst'.2]) ?_
  refine W.skip ?_
  simp only [go_sem]
  refine W.seq ?_
  refine W.rseq (k := 3) rfl fun K hK => ?_
  simp only [go_sem]
  refine hK _ _ _ ?_
  clear hK K
  refine W.block (W.while (fun m t h n => ∃ k : Nat, m = l.length - k ∧ k ≤ l.length ∧ 0 < n ∧ t 1 = .ro (l.map eFc) ∧ t 2 = .ptr 0 0 0 ∧ t 28 = .ro (l.map eFc) ∧ t 29 = .int .i64 l.length ∧ t 30 = .int .i64 k ∧ h 0 = some (.cells [eGr g]) ∧ Upto (showR g l) l k) l.length
    ⟨0, by simp, by simp, by omega, rfl, rfl, rfl, rfl, rfl, by simp only [go_sem], Upto.zero⟩ fun m t h n ⟨k, i1, i2, i0, i3, i4, i5, i6, i7, i8, i9⟩ => ?_)
  refine W.rseq (k := 1) rfl fun K hK => ?_
  simp only [go_sem, i6, i7]
  refine hK _ _ _ ?_
  clear hK K
  refine W.seq ?_
  refine W.cond rfl (fun hc => ?_) fun hc => ?_
  · refine W.skip ?_
    simp only [go_sem]
    have hk : k < l.length := by simp at hc; omega
    obtain ⟨f, hf⟩ := get_some hk
    have z0 : ∀ i, ¬ (0 = n + i) := fun i => by omega
    refine W.seq (W.block ?_)
    refine W.rseq (k := 6) rfl fun K hK => ?_
    simp only [go_sem, i5, i7, hf]
    refine hK _ _ _ ?_
    clear hK K
    have bad : showR g l k f = false → allIdx (showR g l) l = false := fun e => all_false hf e
    refine W.seqk fun K hK => ?_
    refine W.block ?_
    by_cases cs : (k : Int) = g.start
    · refine W.seq ?_
      refine W.rseq (k := 5) rfl fun K hK => ?_
      simp only [go_sem, i4, z0, i8, cs]
      refine hK _ _ _ ?_
      clear hK K
      refine W.condT (by simp only [go_sem]) ?_
      refine W.skip ?_
      simp only [go_sem]
      refine W.condT (by simp only [go_sem]) ?_
      refine W.exit ?_
      simp only [go_sem]
      refine W.region (k := 2) rfl ?_
      simp only [go_sem, i7]
      refine ⟨l.length - (k + 1), by omega, k + 1, rfl, by omega, by omega, i3, i4, i5, i6, ?_, by simp only [go_sem, z0, i8], i9.succ hf (by simp [showR, cs])⟩
      rw [wrap64 (by omega) (by omega)]; rfl
    refine W.seq ?_
    refine W.rseq (k := 5) rfl fun K hK => ?_
    simp only [go_sem, i4, z0, i8, show decide ((k : Int) = g.start) = false by simp [cs]]
    refine hK _ _ _ ?_
    clear hK K
    refine W.condF (by simp only [go_sem]) ?_
    refine W.region (k := 4) rfl ?_
    simp only [go_sem]
    by_cases cz : f.1 = 0 ∧ f.2 = 0
    · refine W.condT (by simp only [go_sem, cz.1, cz.2]) ?_
      refine W.exit ?_
      simp only [go_sem]
      refine W.region (k := 2) rfl ?_
      simp only [go_sem, i7]
      refine ⟨l.length - (k + 1), by omega, k + 1, rfl, by omega, by omega, i3, i4, i5, i6, ?_, by simp only [go_sem, z0, i8], i9.succ hf (by simp [showR, cz])⟩
      rw [wrap64 (by omega) (by omega)]; rfl
    have hz : (decide (f.1 = 0) && decide (f.2 = 0)) = false := by
      by_cases e : f.1 = 0
      · simp [e]; exact fun h => cz ⟨e, h⟩
      · simp [e]
    refine W.condF (by simp only [go_sem]; rw [hz]) ?_
    refine W.seqk fun K hK => ?_
    refine W.rseq (k := 4) rfl fun K hK => ?_
    simp only [go_sem]
    refine hK _ _ _ ?_
    clear hK K
    by_cases c1 : f.1 < 1
    · refine W.condT (by simp only [go_sem, c1]) ?_
      refine W.skip ?_
      simp only [go_sem]
      refine hK _ _ _ ?_
      clear hK K
      refine W.condT (by simp only [go_sem, c1]) ?_
      refine W.rseq (k := 1) rfl fun K hK => ?_
      simp only [go_sem]
      refine hK _ _ _ ?_
      clear hK K
      refine W.ret ?_
      simp only [go_sem]
      rw [hpre, bad (by simp [showR, cs, hz]; omega)]
    refine W.condF (by simp only [go_sem, c1]) ?_
    refine W.rseq (k := 4) rfl fun K hK => ?_
    simp only [go_sem]
    refine hK _ _ _ ?_
    clear hK K
    by_cases c2 : f.2 < 0
    · refine W.condT (by simp only [go_sem, c2]) ?_
      refine W.skip ?_
      simp only [go_sem]
      refine hK _ _ _ ?_
      clear hK K
      refine W.condT (by simp only [go_sem, c2]) ?_
      refine W.rseq (k := 1) rfl fun K hK => ?_
      simp only [go_sem]
      refine hK _ _ _ ?_
      clear hK K
      refine W.ret ?_
      simp only [go_sem]
      rw [hpre, bad (by simp [showR, cs, hz]; omega)]
    refine W.condF (by simp only [go_sem, c2]) ?_
    refine W.region (k := 7) rfl ?_
    simp only [go_sem, i4, z0, i8]
    refine hK _ _ _ ?_
    clear hK K
    by_cases c3 : (g.prods.length : Int) ≤ f.2
    · refine W.condT (by simp only [go_sem, c3]) ?_
      refine W.rseq (k := 1) rfl fun K hK => ?_
      simp only [go_sem]
      refine hK _ _ _ ?_
      clear hK K
      refine W.ret ?_
      simp only [go_sem]
      rw [hpre, bad (by simp [showR, cs, hz, List.getElem?_eq_none (show g.prods.length ≤ f.2.toNat by omega)])]
    refine W.condF (by simp only [go_sem, c3]) ?_
    refine W.skip ?_
    simp only [go_sem]
    obtain ⟨p, hp⟩ := get_some (show f.2.toNat < g.prods.length by omega)
    have hm : p ∈ g.prods := List.mem_of_getElem? hp
    obtain ⟨⟨hl0, hl1⟩, hin⟩ := hIn p hm
    obtain ⟨b2, hb2⟩ := fc_get hl0 hl1
    have hval : showR g l k f = (decide (1 ≤ rk l p.left) && decide (rk l p.left < f.1) && stands p k) := by
      simp [showR, cs, hz, hp, show 1 ≤ f.1 by omega, show 0 ≤ f.2 by omega]
    refine hK _ _ _ ?_
    clear hK K
    refine W.rseq (k := 8) rfl fun K hK => ?_
    simp only [go_sem, i4, z0, i8, hp, show 0 ≤ f.2 by omega]
    refine hK _ _ _ ?_
    clear hK K
    refine W.rseq (k := 7) rfl fun K hK => ?_
    simp only [go_sem, i3, hl0, hl1, hb2]
    refine hK _ _ _ ?_
    clear hK K
    refine W.rseq (k := 16) rfl fun K hK => ?_
    by_cases c4 : rk l p.left < 1
    · simp only [go_sem, show decide (rk l p.left < 1) = true by simp [c4]]
      refine hK _ _ _ ?_
      clear hK K
      refine W.condT (by simp only [go_sem]) ?_
      refine W.rseq (k := 1) rfl fun K hK => ?_
      simp only [go_sem]
      refine hK _ _ _ ?_
      clear hK K
      refine W.ret ?_
      simp only [go_sem]
      rw [hpre, bad (by rw [hval]; simp; omega)]
    by_cases c5 : f.1 ≤ rk l p.left
    · simp only [go_sem, show decide (rk l p.left < 1) = false by simp; omega, show decide (f.1 ≤ rk l p.left) = true by simp [c5]]
      refine hK _ _ _ ?_
      clear hK K
      refine W.condT (by simp only [go_sem]) ?_
      refine W.rseq (k := 1) rfl fun K hK => ?_
      simp only [go_sem]
      refine hK _ _ _ ?_
      clear hK K
      refine W.ret ?_
      simp only [go_sem]
      rw [hpre, bad (by rw [hval]; simp; omega)]
    simp only [go_sem, show decide (rk l p.left < 1) = false by simp; omega, show decide (f.1 ≤ rk l p.left) = false by simp; omega]
    refine VCall.frz 6 (f93 p.right ⟨true, (k : Int)⟩ (hg.2 p hm)) rfl ?_
    cases hs : stands p k
    · simp only [go_sem, eqS_stands, hs]
      refine hK _ _ _ ?_
      clear hK K
      refine W.condT (by simp only [go_sem]) ?_
      refine W.rseq (k := 1) rfl fun K hK => ?_
      simp only [go_sem]
      refine hK _ _ _ ?_
      clear hK K
      refine W.ret ?_
      simp only [go_sem]
      rw [hpre, bad (by rw [hval, hs]; simp)]
    · simp only [go_sem, eqS_stands, hs]
      refine hK _ _ _ ?_
      clear hK K
      refine W.condF (by simp only [go_sem]) ?_
      refine W.skip ?_
      simp only [go_sem]
      refine W.region (k := 2) rfl ?_
      simp only [go_sem, i7]
      refine ⟨l.length - (k + 1), by omega, k + 1, rfl, by omega, by omega, i3, i4, i5, i6, ?_, by simp only [go_sem, z0, i8], i9.succ hf (by rw [hval, hs]; simp; omega)⟩
      rw [wrap64 (by omega) (by omega)]; rfl
  · refine W.exit ?_
    simp only [go_sem]
    refine W.rseq (k := 1) rfl fun K hK => ?_
    simp only [go_sem]
    refine hK _ _ _ ?_
    clear hK K
    refine W.ret ?_
    simp only [go_sem]
    have hk : k = l.length := by simp at hc; omega
    subst hk
    rw [hpre, i9.all]

end Go.Av

