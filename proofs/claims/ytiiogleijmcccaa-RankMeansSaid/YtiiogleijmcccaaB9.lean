/-
  Layer 9: do facts show ranks? (the package) Conditions: none.
-/
import Derived.Test.YtiiogleijmcccaaB8
namespace Go.Av
open Go.Proofs
set_option maxRecDepth 100000
set_option linter.unusedSimpArgs false
set_option linter.unusedVariables false

/-- Does a nonterminal's fact show its rank? -/
def showAt (g : Gr) (l : List Fc) (terms : Bool) (non : Nat) (f : Fc) : Bool :=
  if f.1 < 0 then false else if f.1 = 0 then decide (f.2 = 0) else
    if f.2 < 0 then false else match g.prods[f.2.toNat]? with
      | some p => decide (p.left = (non : Int)) && fits p l f.1 terms
      | none => false

def ShowAll (g : Gr) (l : List Fc) (terms : Bool) (k : Nat) : Prop := ∀ j f, j < k → l[j]? = some f → showAt g l terms j f = true

def shows (g : Gr) (l : List Fc) (terms : Bool) : Bool := right g && decide ((l.length : Int) = g.nons) && l.zipIdx.all fun x => showAt g l terms x.2 x.1

theorem shows_true {g : Gr} {l : List Fc} {terms : Bool} (hr : right g = true) (hl : (l.length : Int) = g.nons) (h : ShowAll g l terms l.length) : shows g l terms = true := by
  simp only [shows, hr, hl, decide_true, Bool.true_and, List.all_eq_true]
  intro x hx
  obtain ⟨f, j⟩ := x
  have := List.mk_mem_zipIdx_iff_getElem?.1 hx
  exact h j f (List.getElem?_eq_some_iff.1 this).1 this

theorem shows_false {g : Gr} {l : List Fc} {terms : Bool} {j : Nat} {f : Fc} (hj : l[j]? = some f) (h : showAt g l terms j f = false) : shows g l terms = false := by
  have : (l.zipIdx.all fun x => showAt g l terms x.2 x.1) = false := by
    rw [List.all_eq_false]
    exact ⟨(f, j), List.mk_mem_zipIdx_iff_getElem?.2 hj, by simp [h]⟩
  simp [shows, this]

theorem ShowAll.succ {g : Gr} {l : List Fc} {terms : Bool} {k : Nat} {f : Fc} (h : ShowAll g l terms k) (hk : l[k]? = some f) (hf : showAt g l terms k f = true) : ShowAll g l terms (k + 1) := by
  intro j f' hj hf'
  by_cases e : j = k
  · subst e; rw [hk] at hf'; cases hf'; exact hf
  · exact h j f' (by omega) hf'

theorem f33 (g : Gr) (hg : g.Small) (l : List Fc) (hl : l.length < 2 ^ 60) (terms : Bool) : PF pg Tq 33 [.agg (eGr g), .ro (l.map eFc), .bool terms] (.bool (shows g l terms)) := by
  have hg1 : g.prods.length < 2 ^ 60 := hg.1
  refine Fb ?_
  refine FH.of (N := 74) (rs := #[.tmp 6]) Try.func33 rfl rfl (of_decide_eq_true rfl) rfl (by decide) ?_
  refine W.rseq (k := 2) rfl fun K hK => ?_
  simp only [go_sem]
  refine hK _ _ _ ?_
  clear hK K
  refine W.seq ?_
  refine W.rseq (k := 10) rfl fun K hK => ?_
  simp only [go_sem]
  refine VCall.frz 6 (f87 g hg) rfl ?_
  cases hr : right g
  · simp only [go_sem]
    refine hK _ _ _ ?_
    clear hK K
    refine W.condT rfl ?_
    refine W.rseq (k := 1) rfl fun K hK => ?_
    simp only [go_sem]
    refine hK _ _ _ ?_
    clear hK K
    refine W.ret ?_
    simp only [go_sem]
    simp [shows, hr]
  by_cases hlen : (l.length : Int) = g.nons
  rotate_left
  · simp only [go_sem, hlen]
    refine hK _ _ _ ?_
    clear hK K
    refine W.condT rfl ?_
    refine W.rseq (k := 1) rfl fun K hK => ?_
    simp only [go_sem]
    refine hK _ _ _ ?_
    clear hK K
    refine W.ret ?_
    simp only [go_sem]
    simp [shows, hlen]
  have hlen' : decide ((l.length : Int) = g.nons) = true := by simp [hlen]
  simp only [go_sem, hlen']
  refine hK _ _ _ ?_
  clear hK K
  refine W.condF rfl ?_
  refine W.skip ?_
  simp only [go_sem]
  have hIn : g.In l := right_In hr hlen
  refine W.seq ?_
  refine W.rseq (k := 3) rfl fun K hK => ?_
  simp only [go_sem]
  refine hK _ _ _ ?_
  clear hK K
  refine W.block (W.while (fun m t h n => ∃ k : Nat, m = l.length - k ∧ k ≤ l.length ∧ 0 < n ∧ t 1 = .ro (l.map eFc) ∧ t 2 = .bool terms ∧ t 3 = .ptr 0 0 0 ∧ t 19 = .ro (l.map eFc) ∧ t 20 = .int .i64 l.length ∧ t 21 = .int .i64 k ∧ h 0 = some (.cells [eGr g]) ∧ ShowAll g l terms k) l.length
    ⟨0, by simp, by simp, by omega, rfl, rfl, rfl, rfl, rfl, rfl, by simp only [go_sem], fun j f hj => absurd hj (by omega)⟩ fun m t h n ⟨k, i1, i2, i3, i4, i5, i6, i7, i8, i9, i10, i11⟩ => ?_)
  have z1 : ∀ i, ¬ (0 = n + i) := fun i => by omega
  have z2 : ∀ i, (0 < n + i) = True := fun i => by simp; omega
  refine W.rseq (k := 1) rfl fun K hK => ?_
  simp only [go_sem, i8, i9]
  refine hK _ _ _ ?_
  clear hK K
  refine W.seq ?_
  refine W.cond rfl (fun hc => ?_) fun hc => ?_
  · refine W.skip ?_
    simp only [go_sem]
    have hk : k < l.length := by simp at hc; omega
    obtain ⟨⟨a, b⟩, hf⟩ := get_some hk
    have bad : showAt g l terms k (a, b) = false → shows g l terms = false := shows_false hf
    have good : showAt g l terms k (a, b) = true → ShowAll g l terms (k + 1) := i11.succ hf
    have hw : IntKind.wrap .i64 ((k : Int) + 1) = ((k + 1 : Nat) : Int) := wrap64 (by omega) (by omega)
    refine W.seq (W.block ?_)
    refine W.rseq (k := 6) rfl fun K hK => ?_
    simp only [go_sem, i7, i9, hf]
    refine hK _ _ _ ?_
    clear hK K
    refine W.block ?_
    refine W.seq ?_
    refine W.rseq (k := 4) rfl fun K hK => ?_
    simp only [go_sem]
    refine hK _ _ _ ?_
    clear hK K
    by_cases c1 : a < 0
    · refine W.condT (by simp only [go_sem, c1]) ?_
      refine W.skip ?_
      simp only [go_sem]
      refine W.condT (by simp only [go_sem, c1]) ?_
      refine W.rseq (k := 1) rfl fun K hK => ?_
      simp only [go_sem]
      refine hK _ _ _ ?_
      clear hK K
      refine W.ret ?_
      simp only [go_sem]
      rw [bad (by simp [showAt, c1])]
    refine W.condF (by simp only [go_sem, c1]) ?_
    refine W.region (k := 9) rfl ?_
    by_cases c2 : a = 0
    · subst c2
      simp only [go_sem]
      by_cases c3 : b = 0
      · simp only [go_sem, c3]
        refine W.condF (by simp only [go_sem]) ?_
        refine W.rseq (k := 4) rfl fun K hK => ?_
        simp only [go_sem]
        refine hK _ _ _ ?_
        clear hK K
        refine W.condT rfl ?_
        refine W.exit ?_
        simp only [go_sem]
        refine W.region (k := 2) rfl ?_
        simp only [go_sem, i9]
        refine ⟨l.length - (k + 1), by omega, k + 1, rfl, by omega, by omega, i4, i5, i6, i7, i8, by rw [hw], by simp only [go_sem, z1, i10], good (by simp [showAt, c3])⟩
      · simp only [go_sem, c3]
        refine W.condT (by simp only [go_sem]) ?_
        refine W.rseq (k := 1) rfl fun K hK => ?_
        simp only [go_sem]
        refine hK _ _ _ ?_
        clear hK K
        refine W.ret ?_
        simp only [go_sem]
        rw [bad (by simp [showAt, c3])]
    simp only [go_sem, c2]
    refine W.condF (by simp only [go_sem]) ?_
    refine W.rseq (k := 4) rfl fun K hK => ?_
    simp only [go_sem]
    refine hK _ _ _ ?_
    clear hK K
    refine W.condF (by simp only [go_sem, c2]) ?_
    refine W.seq ?_
    refine W.rseq (k := 4) rfl fun K hK => ?_
    simp only [go_sem]
    refine hK _ _ _ ?_
    clear hK K
    by_cases c3 : b < 0
    · refine W.condT (by simp only [go_sem, c3]) ?_
      refine W.skip ?_
      simp only [go_sem]
      refine W.condT (by simp only [go_sem, c3]) ?_
      refine W.rseq (k := 1) rfl fun K hK => ?_
      simp only [go_sem]
      refine hK _ _ _ ?_
      clear hK K
      refine W.ret ?_
      simp only [go_sem]
      rw [bad (by simp [showAt, c1, c2, c3])]
    refine W.condF (by simp only [go_sem, c3]) ?_
    refine W.rseq (k := 7) rfl fun K hK => ?_
    simp only [go_sem, i6, z1, i10]
    refine hK _ _ _ ?_
    clear hK K
    by_cases c4 : (g.prods.length : Int) ≤ b
    · refine W.condT (by simp only [go_sem, c4]) ?_
      refine W.skip ?_
      simp only [go_sem]
      refine W.condT (by simp only [go_sem, c4]) ?_
      refine W.rseq (k := 1) rfl fun K hK => ?_
      simp only [go_sem]
      refine hK _ _ _ ?_
      clear hK K
      refine W.ret ?_
      simp only [go_sem]
      rw [bad (by simp [showAt, c1, c2, c3, show g.prods[b.toNat]? = none from List.getElem?_eq_none (by omega)])]
    refine W.condF (by simp only [go_sem, c4]) ?_
    obtain ⟨p, hp⟩ := get_some (show b.toNat < g.prods.length by omega)
    have hm : p ∈ g.prods := List.mem_of_getElem? hp
    have hb0 : 0 ≤ b := by omega
    refine W.rseq (k := 10) rfl fun K hK => ?_
    simp only [go_sem, i6, z1, i10, hb0, hp]
    refine hK _ _ _ ?_
    clear hK K
    by_cases c5 : p.left = (k : Int)
    rotate_left
    · refine W.condT (by simp only [go_sem, c5]) ?_
      refine W.skip ?_
      simp only [go_sem]
      refine W.condT (by simp only [go_sem, c5]) ?_
      refine W.rseq (k := 1) rfl fun K hK => ?_
      simp only [go_sem]
      refine hK _ _ _ ?_
      clear hK K
      refine W.ret ?_
      simp only [go_sem]
      rw [bad (by simp [showAt, c1, c2, c3, hp, c5])]
    refine W.condF (by simp only [go_sem, c5]) ?_
    refine W.draw (k := 13) rfl ?_
    simp only [go_sem, i4, i5, i6, z1, z2, i10, hb0, hp]
    refine VCall.frz 6 (f88 p l a terms (hg.2 p hm) (hIn p hm).2) rfl ?_
    simp only [go_sem]
    refine ⟨by kernel_rfl, ?_⟩
    cases c6 : fits p l a terms
    · refine W.condT rfl ?_
      refine W.rseq (k := 1) rfl fun K hK => ?_
      simp only [go_sem]
      refine hK _ _ _ ?_
      clear hK K
      refine W.ret ?_
      simp only [go_sem]
      rw [bad (by simp [showAt, c1, c2, c3, hp, c5, c6])]
    · refine W.condF rfl ?_
      refine W.skip ?_
      simp only [go_sem]
      refine W.region (k := 2) rfl ?_
      simp only [go_sem, i9]
      refine ⟨l.length - (k + 1), by omega, k + 1, rfl, by omega, by omega, i4, i5, i6, i7, i8, by rw [hw], by simp only [go_sem, z1, i10], good (by simp [showAt, c1, c2, c3, hp, c5, c6])⟩
  · refine W.exit ?_
    simp only [go_sem]
    refine W.rseq (k := 1) rfl fun K hK => ?_
    simp only [go_sem]
    refine hK _ _ _ ?_
    clear hK K
    refine W.ret ?_
    simp only [go_sem]
    have hk : k = l.length := by simp at hc; omega
    rw [shows_true hr hlen (hk ▸ i11)]

end Go.Av

