/-
  Layer 16: words that fit; what is more than is looked at. Conditions: none.
-/
import Derived.Test.YtiiogleijmcccaaV4
namespace Go.Av
open Go.Proofs
set_option maxRecDepth 100000
set_option linter.unusedSimpArgs false
set_option linter.unusedVariables false

def belowB (w : List Int) (m : Int) : Bool := w.all fun t => decide (0 ≤ t) && decide (t < m)

theorem below_bad {w : List Int} {m t : Int} {j : Nat} (h : w[j]? = some t) (hb : t < 0 ∨ t ≥ m) : belowB w m = false := by
  unfold belowB
  rw [List.all_eq_false]
  refine ⟨t, List.mem_of_getElem? h, ?_⟩
  simp only [Bool.and_eq_true, decide_eq_true_eq]
  omega

theorem below_all {w : List Int} {m : Int} (h : ∀ j, j < w.length → ∀ t, w[j]? = some t → 0 ≤ t ∧ t < m) : belowB w m = true := by
  unfold belowB
  rw [List.all_eq_true]
  intro t ht
  obtain ⟨j, hj⟩ := List.getElem?_of_mem ht
  have := h j (List.getElem?_eq_some_iff.1 hj).1 t hj
  simp only [Bool.and_eq_true, decide_eq_true_eq]
  exact this

set_option maxHeartbeats 4000000 in
theorem f132 (w : List Int) (m : Int) (hw : w.length < 2 ^ 40) : PF pg Tq 132 [.ro (w.map eIn), .int .i64 m] (.bool (belowB w m)) := by
  refine Fb ?_
  refine FH.of (N := 21) (rs := #[.tmp 4]) Try.func132 rfl rfl (of_decide_eq_true rfl) rfl (by decide) ?_
  refine W.rseq (k := 1) rfl fun K hK => ?_
  simp only [go_sem]
  refine hK _ _ _ ?_
  clear hK K
  refine W.seq ?_
  refine W.rseq (k := 3) rfl fun K hK => ?_
  simp only [go_sem]
  refine hK _ _ _ ?_
  clear hK K
  refine W.block (W.while (fun k t h n => ∃ j : Nat, k = w.length - j ∧ j ≤ w.length ∧ (∀ i, i < j → ∀ t, w[i]? = some t → 0 ≤ t ∧ t < m) ∧ (t 1 = .int .i64 m ∧ t 7 = .ro (w.map eIn) ∧ t 8 = .int .i64 w.length) ∧ t 9 = .int .i64 j) w.length
    ⟨0, by simp, by simp, fun i hi => by omega, ⟨rfl, rfl, by simp only [go_sem]⟩, rfl⟩ fun k t h n ⟨j, i1, i2, i3, i4, i5⟩ => ?_)
  have i4' := i4
  obtain ⟨a1, a7, a8⟩ := i4'
  refine W.rseq (k := 1) rfl fun K hK => ?_
  simp only [go_sem, a8, i5]
  refine hK _ _ _ ?_
  clear hK K
  refine W.seq ?_
  refine W.cond rfl (fun hc => ?_) fun hc => ?_
  · refine W.skip ?_
    simp only [go_sem]
    have hj : j < w.length := by simp at hc; omega
    obtain ⟨x, hx⟩ := get_some hj
    refine W.seq (W.block ?_)
    refine W.rseq (k := 3) rfl fun K hK => ?_
    simp only [go_sem, a7, i5, hx]
    refine hK _ _ _ ?_
    clear hK K
    refine W.rseq (k := 7) rfl fun K hK => ?_
    by_cases c1 : x < 0
    · simp only [go_sem, decide_eq_true c1]
      refine hK _ _ _ ?_
      first | clear hK K | clear hK | skip
      refine W.condT (by simp only [go_sem]) ?_
      refine W.rseq (k := 1) rfl fun K hK => ?_
      simp only [go_sem]
      refine hK _ _ _ ?_
      clear hK K
      refine W.ret ?_
      simp only [go_sem]
      rw [below_bad hx (.inl c1)]
    by_cases c2 : x ≥ m
    · simp only [go_sem, decide_eq_false c1, a1, decide_eq_true c2]
      refine hK _ _ _ ?_
      first | clear hK K | clear hK | skip
      refine W.condT (by simp only [go_sem]) ?_
      refine W.rseq (k := 1) rfl fun K hK => ?_
      simp only [go_sem]
      refine hK _ _ _ ?_
      clear hK K
      refine W.ret ?_
      simp only [go_sem]
      rw [below_bad hx (.inr c2)]
    · simp only [go_sem, decide_eq_false c1, a1, decide_eq_false c2]
      refine hK _ _ _ ?_
      first | clear hK K | clear hK | skip
      refine W.condF (by simp only [go_sem]) ?_
      refine W.skip ?_
      simp only [go_sem]
      refine W.region (k := 2) rfl ?_
      simp only [go_sem, i5]
      refine ⟨w.length - (j + 1), by omega, j + 1, rfl, by omega, fun i hi t ht => ?_, ⟨a1, a7, a8⟩, ?_⟩
      · by_cases e : i = j
        · subst e
          rw [hx] at ht
          cases ht
          omega
        · exact i3 i (by omega) t ht
      · rw [wrap64 (by omega) (by omega)]; rfl
  · refine W.exit ?_
    simp only [go_sem]
    have hj : j = w.length := by simp at hc; omega
    refine W.rseq (k := 1) rfl fun K hK => ?_
    simp only [go_sem]
    refine hK _ _ _ ?_
    clear hK K
    refine W.ret ?_
    simp only [go_sem]
    rw [below_all (fun i hi => i3 i (by omega))]

def rightW (w : List Int) : Bool := decide ((w.length : Int) ≤ 24) && belowB w 16

def fitsW (g : Gr) (w : List Int) : Bool := rightW w && belowB w g.terms

theorem f131 (w : List Int) (hw : w.length < 2 ^ 40) : PF pg Tq 131 [.ro (w.map eIn)] (.bool (rightW w)) := by
  refine Fb ?_
  refine FH.of (N := 10) (rs := #[.tmp 2]) Try.func131 rfl rfl (of_decide_eq_true rfl) rfl (by decide) ?_
  refine W.rseq (k := 1) rfl fun K hK => ?_
  simp only [go_sem]
  refine hK _ _ _ ?_
  clear hK K
  refine W.rseq (k := 8) rfl fun K hK => ?_
  by_cases c1 : (w.length : Int) ≤ 24
  · simp only [go_sem, decide_eq_true c1]
    refine VCall.frz 6 (f132 w 16 hw) rfl ?_
    simp only [go_sem]
    refine hK _ _ _ ?_
    first | clear hK K | clear hK | skip
    refine W.ret ?_
    simp only [go_sem]
    rw [rightW, decide_eq_true c1]; rfl
  · simp only [go_sem, decide_eq_false c1]
    refine hK _ _ _ ?_
    first | clear hK K | clear hK | skip
    refine W.ret ?_
    simp only [go_sem]
    rw [rightW, decide_eq_false c1]; rfl

theorem f108 (g : Gr) (w : List Int) (hw : w.length < 2 ^ 40) : PF pg Tq 108 [.agg (eGr g), .ro (w.map eIn)] (.bool (fitsW g w)) := by
  refine Fb ?_
  refine FH.of (N := 13) (rs := #[.tmp 4]) Try.func108 rfl rfl (of_decide_eq_true rfl) rfl (by decide) ?_
  refine W.rseq (k := 2) rfl fun K hK => ?_
  simp only [go_sem]
  refine hK _ _ _ ?_
  clear hK K
  refine W.rseq (k := 9) rfl fun K hK => ?_
  simp only [go_sem]
  refine VCall.frz 6 (f131 w hw) rfl ?_
  cases hr : rightW w
  · simp only [go_sem]
    refine hK _ _ _ ?_
    first | clear hK K | clear hK | skip
    refine W.ret ?_
    simp only [go_sem]
    rw [fitsW, hr]; rfl
  · simp only [go_sem]
    refine VCall.frz 6 (f132 w g.terms hw) rfl ?_
    simp only [go_sem]
    refine hK _ _ _ ?_
    first | clear hK K | clear hK | skip
    refine W.ret ?_
    simp only [go_sem]
    rw [fitsW, hr]; rfl

set_option maxHeartbeats 4000000 in
theorem f133 (w : List Int) (hw : w.length < 2 ^ 40) : PF pg Tq 133 [.ro (w.map eIn)] (.bool (rightW w)) := by
  refine Fb ?_
  refine FH.of (N := 25) (rs := #[.tmp 2]) Try.func133 rfl rfl (of_decide_eq_true rfl) rfl (by decide) ?_
  refine W.rseq (k := 1) rfl fun K hK => ?_
  simp only [go_sem]
  refine hK _ _ _ ?_
  clear hK K
  refine W.seq ?_
  refine W.rseq (k := 3) rfl fun K hK => ?_
  simp only [go_sem]
  refine hK _ _ _ ?_
  clear hK K
  by_cases c0 : (w.length : Int) > 24
  · refine W.condT (by simp only [go_sem, decide_eq_true c0]) ?_
    refine W.rseq (k := 1) rfl fun K hK => ?_
    simp only [go_sem]
    refine hK _ _ _ ?_
    clear hK K
    refine W.ret ?_
    simp only [go_sem]
    rw [rightW, decide_eq_false (by omega)]; rfl
  refine W.condF (by simp only [go_sem, decide_eq_false c0]) ?_
  refine W.skip ?_
  simp only [go_sem]
  have hrw : rightW w = belowB w 16 := by rw [rightW, decide_eq_true (by omega)]; rfl
  rw [hrw]
  refine W.seq ?_
  refine W.rseq (k := 1) rfl fun K hK => ?_
  simp only [go_sem]
  refine hK _ _ _ ?_
  clear hK K
  refine W.block (W.while (fun k t h n => ∃ j : Nat, k = w.length - j ∧ j ≤ w.length ∧ (∀ i, i < j → ∀ t, w[i]? = some t → 0 ≤ t ∧ t < 16) ∧ t 0 = .ro (w.map eIn) ∧ t 3 = .int .i64 j) w.length
    ⟨0, by simp, by simp, fun i hi => by omega, rfl, rfl⟩ fun k t h n ⟨j, i1, i2, i3, i4, i5⟩ => ?_)
  refine W.seq ?_
  refine W.rseq (k := 4) rfl fun K hK => ?_
  simp only [go_sem, i4, i5]
  refine hK _ _ _ ?_
  clear hK K
  refine W.cond rfl (fun hc => ?_) fun hc => ?_
  · refine W.skip ?_
    simp only [go_sem]
    have hj : j < w.length := by simp at hc; omega
    obtain ⟨x, hx⟩ := get_some hj
    refine W.seq (W.block ?_)
    refine W.rseq (k := 12) rfl fun K hK => ?_
    by_cases c1 : x < 0
    · simp only [go_sem, i4, i5, hx, decide_eq_true c1]
      refine hK _ _ _ ?_
      first | clear hK K | clear hK | skip
      refine W.condT (by simp only [go_sem]) ?_
      refine W.rseq (k := 1) rfl fun K hK => ?_
      simp only [go_sem]
      refine hK _ _ _ ?_
      clear hK K
      refine W.ret ?_
      simp only [go_sem]
      rw [below_bad hx (.inl c1)]
    by_cases c2 : x > 15
    · simp only [go_sem, i4, i5, hx, decide_eq_false c1, decide_eq_true c2]
      refine hK _ _ _ ?_
      first | clear hK K | clear hK | skip
      refine W.condT (by simp only [go_sem]) ?_
      refine W.rseq (k := 1) rfl fun K hK => ?_
      simp only [go_sem]
      refine hK _ _ _ ?_
      clear hK K
      refine W.ret ?_
      simp only [go_sem]
      rw [below_bad hx (.inr (by omega))]
    · simp only [go_sem, i4, i5, hx, decide_eq_false c1, decide_eq_false c2]
      refine hK _ _ _ ?_
      first | clear hK K | clear hK | skip
      refine W.condF (by simp only [go_sem]) ?_
      refine W.skip ?_
      simp only [go_sem]
      refine W.region (k := 3) rfl ?_
      simp only [go_sem, i5]
      refine ⟨w.length - (j + 1), by omega, j + 1, rfl, by omega, fun i hi t ht => ?_, i4, ?_⟩
      · by_cases e : i = j
        · subst e
          rw [hx] at ht
          cases ht
          omega
        · exact i3 i (by omega) t ht
      · rw [wrap64 (by omega) (by omega)]; rfl
  · refine W.exit ?_
    simp only [go_sem]
    have hj : j = w.length := by simp at hc; omega
    refine W.rseq (k := 1) rfl fun K hK => ?_
    simp only [go_sem]
    refine hK _ _ _ ?_
    clear hK K
    refine W.ret ?_
    simp only [go_sem]
    rw [below_all (fun i hi => i3 i (by omega))]

set_option maxHeartbeats 4000000 in
theorem f109 (g : Gr) (w : List Int) (hw : w.length < 2 ^ 40) : PF pg Tq 109 [.agg (eGr g), .ro (w.map eIn)] (.bool (fitsW g w)) := by
  refine Fb ?_
  refine FH.of (N := 22) (rs := #[.tmp 4]) Try.func109 rfl rfl (of_decide_eq_true rfl) rfl (by decide) ?_
  refine W.rseq (k := 2) rfl fun K hK => ?_
  simp only [go_sem]
  refine hK _ _ _ ?_
  clear hK K
  refine W.seq ?_
  refine W.rseq (k := 3) rfl fun K hK => ?_
  simp only [go_sem]
  refine VCall.frz 6 (f133 w hw) rfl ?_
  simp only [go_sem]
  refine hK _ _ _ ?_
  first | clear hK K | clear hK | skip
  cases hr : rightW w
  · refine W.condT (by simp only [go_sem]) ?_
    refine W.rseq (k := 1) rfl fun K hK => ?_
    simp only [go_sem]
    refine hK _ _ _ ?_
    clear hK K
    refine W.ret ?_
    simp only [go_sem]
    rw [fitsW, hr]; rfl
  refine W.condF (by simp only [go_sem]) ?_
  refine W.skip ?_
  simp only [go_sem]
  have hpos : ∀ j : Nat, ∀ t, w[j]? = some t → 0 ≤ t := fun j t ht => by
    have h1 : belowB w 16 = true := by
      rw [rightW, Bool.and_eq_true] at hr; exact hr.2
    have h2 := List.all_eq_true.1 h1 t (List.mem_of_getElem? ht)
    simp only [Bool.and_eq_true, decide_eq_true_eq] at h2
    exact h2.1
  have hfw : fitsW g w = belowB w g.terms := by rw [fitsW, hr]; rfl
  rw [hfw]
  refine W.seq ?_
  refine W.rseq (k := 1) rfl fun K hK => ?_
  simp only [go_sem]
  refine hK _ _ _ ?_
  clear hK K
  refine W.block (W.while (fun k t h n => ∃ j : Nat, k = w.length - j ∧ j ≤ w.length ∧ 0 < n ∧ (∀ i, i < j → ∀ t, w[i]? = some t → 0 ≤ t ∧ t < g.terms) ∧ h 0 = some (.cells [eGr g]) ∧ (t 1 = .ro (w.map eIn) ∧ t 2 = .ptr 0 0 0) ∧ t 5 = .int .i64 j) w.length
    ⟨0, by simp, by simp, by omega, fun i hi => by omega, by simp only [go_sem], ⟨rfl, rfl⟩, rfl⟩ fun k t h n ⟨j, i1, i2, i0, i3, i6, i4, i5⟩ => ?_)
  obtain ⟨a1, a2⟩ := i4
  refine W.seq ?_
  refine W.rseq (k := 4) rfl fun K hK => ?_
  simp only [go_sem, a1, i5]
  refine hK _ _ _ ?_
  clear hK K
  refine W.cond rfl (fun hc => ?_) fun hc => ?_
  · refine W.skip ?_
    simp only [go_sem]
    have hj : j < w.length := by simp at hc; omega
    obtain ⟨x, hx⟩ := get_some hj
    have l0 : ∀ j, (0 < n + j) = True := fun j => eq_true (by omega)
    refine W.seq (W.block ?_)
    refine W.dseq (k := 7) rfl fun K hK => ?_
    simp only [go_sem, a1, a2, i5, i6, hx, l0]
    refine hK _ _ _ _ (by kernel_rfl) ?_
    clear hK K
    by_cases c2 : x ≥ g.terms
    · refine W.condT (by simp only [go_sem, decide_eq_true c2]) ?_
      refine W.rseq (k := 1) rfl fun K hK => ?_
      simp only [go_sem]
      refine hK _ _ _ ?_
      clear hK K
      refine W.ret ?_
      simp only [go_sem]
      rw [below_bad hx (.inr c2)]
    · refine W.condF (by simp only [go_sem, decide_eq_false c2]) ?_
      refine W.skip ?_
      simp only [go_sem]
      refine W.region (k := 3) rfl ?_
      simp only [go_sem, i5]
      refine ⟨w.length - (j + 1), by omega, j + 1, rfl, by omega, by omega, fun i hi t ht => ?_, i6, ⟨a1, a2⟩, ?_⟩
      · by_cases e : i = j
        · subst e
          rw [hx] at ht
          cases ht
          have := hpos i x hx
          omega
        · exact i3 i (by omega) t ht
      · rw [wrap64 (by omega) (by omega)]; rfl
  · refine W.exit ?_
    simp only [go_sem]
    have hj : j = w.length := by simp at hc; omega
    refine W.rseq (k := 1) rfl fun K hK => ?_
    simp only [go_sem]
    refine hK _ _ _ ?_
    clear hK K
    refine W.ret ?_
    simp only [go_sem]
    rw [below_all (fun i hi => i3 i (by omega))]

noncomputable def fitG (g : Gr) (w : List Int) : Bool := decide ((checkL g).2 = 0) && fitsW g w

theorem f76 (g : Gr) (hg : g.Small) (w : List Int) (hw : w.length < 2 ^ 40) : PF pg Tq 76 [.agg (eGr g), .ro (w.map eIn)] (.bool (fitG g w)) := by
  refine Fb ?_
  refine FH.of (N := 19) (rs := #[.tmp 4]) Try.func76 rfl rfl (of_decide_eq_true rfl) rfl (by decide) ?_
  refine W.rseq (k := 2) rfl fun K hK => ?_
  simp only [go_sem]
  refine hK _ _ _ ?_
  clear hK K
  refine W.rseq (k := 7) rfl fun K hK => ?_
  simp only [go_sem]
  refine VCall.frz 6 (f67 g hg) rfl ?_
  try simp only [go_sem]
  refine hK _ _ _ ?_
  clear hK K
  refine W.rseq (k := 8) rfl fun K hK => ?_
  by_cases c : (checkL g).2 = 0
  · simp only [go_sem, decide_eq_true c]
    refine VCall.frz 6 (f109 g w hw) rfl ?_
    simp only [go_sem]
    refine hK _ _ _ ?_
    first | clear hK K | clear hK | skip
    refine W.ret ?_
    simp only [go_sem]
    rw [fitG, decide_eq_true c]; rfl
  · simp only [go_sem, decide_eq_false c]
    refine hK _ _ _ ?_
    first | clear hK K | clear hK | skip
    refine W.ret ?_
    simp only [go_sem]
    rw [fitG, decide_eq_false c]; rfl

def largeW (g : Gr) (w : List Int) : Bool := large g || decide ((g.prods.length : Int) > 30) || (decide ((w.length : Int) > 8) && decide ((w.length : Int) ≤ 24)) || decide ((w.length : Int) > 40)

theorem f71 (g : Gr) (hg : g.Small) (w : List Int) : PF pg Tq 71 [.agg (eGr g), .ro (w.map eIn)] (.bool (largeW g w)) := by
  unfold largeW
  refine Fb ?_
  refine FH.of (N := 28) (rs := #[.tmp 4]) Try.func71 rfl rfl (of_decide_eq_true rfl) rfl (by decide) ?_
  refine W.rseq (k := 2) rfl fun K hK => ?_
  simp only [go_sem]
  refine hK _ _ _ ?_
  clear hK K
  refine W.rseq (k := 24) rfl fun K hK => ?_
  simp only [go_sem]
  refine VCall.frz 6 (f28 g hg) rfl ?_
  cases hl : large g
  · by_cases c1 : (g.prods.length : Int) > 30
    · simp only [go_sem, decide_eq_true c1]
      refine hK _ _ _ ?_
      first | clear hK K | clear hK | skip
      refine W.ret ?_
      simp only [go_sem]
      simp [c1, hl]
    · by_cases c2 : (w.length : Int) > 8
      · by_cases c3 : (w.length : Int) ≤ 24
        · simp only [go_sem, decide_eq_false c1, decide_eq_true c2, decide_eq_true c3]
          refine hK _ _ _ ?_
          first | clear hK K | clear hK | skip
          refine W.ret ?_
          simp only [go_sem]
          simp [c2, c3, hl]
        · simp only [go_sem, decide_eq_false c1, decide_eq_true c2, decide_eq_false c3]
          refine hK _ _ _ ?_
          first | clear hK K | clear hK | skip
          refine W.ret ?_
          simp only [go_sem]
          simp [c1, c2, c3, hl]
      · simp only [go_sem, decide_eq_false c1, decide_eq_false c2]
        refine hK _ _ _ ?_
        first | clear hK K | clear hK | skip
        refine W.ret ?_
        simp only [go_sem]
        simp [c1, c2, hl]
  · simp only [go_sem]
    refine hK _ _ _ ?_
    first | clear hK K | clear hK | skip
    refine W.ret ?_
    simp only [go_sem]
    simp [hl]

end Go.Av

