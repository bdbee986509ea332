/-
  Layer 17: no derivation stands ahead of the least one, or behind the greatest. Conditions: none.
-/
import Derived.Test.YtiiogleijmcccaaZC
import Derived.Test.YtiiogleijmcccaaZ9
import Derived.Test.YtiiogleijmcccaaT13
namespace Go.Av
open Go.Proofs
set_option maxRecDepth 100000
set_option linter.unusedSimpArgs false
set_option linter.unusedVariables false

theorem lead_by {g : Gr} {w : List Int} {l : List (Nat → Nat)} (h : RowsC g w l) {kind : Int} (h0 : 0 ≤ kind) (h2 : kind ≤ 2) : leadL g w kind l = byL g w kind l := by
  have hle : ¬ l = [] := fun e => by have := h.1; rw [e] at this; simp at this
  rw [leadL, if_neg (fun q => q.elim hle fun q => q.elim (by omega) (by omega))]

theorem replay_rep {g : Gr} (hr : right g = true) {l : List Int} (hl : l.length ≤ 2000) : replayL g l = repF g l [⟨true, g.start⟩] [] := by
  rw [replayL, if_pos hr, if_neg (by omega)]

/-- What is told of the least one and of the greatest. -/
theorem ends_law {g : Gr} (hG : GoodG g) {w : List Int} (hw : w.length ≤ 24) {l : List (Nat → Nat)} (hrc : RowsC g w l) :
    ((byL g w 0 l).1 = 11 ∧ (byL g w 1 l).1 = 11) ∨ (((byL g w 0 l).1 = 5 ∨ ((byL g w 0 l).1 = 0 ∧ repF g (byL g w 0 l).2 [⟨true, g.start⟩] [] = (0, w))) ∧ ((byL g w 1 l).1 = 5 ∨ ((byL g w 1 l).1 = 0 ∧ repF g (byL g w 1 l).2 [⟨true, g.start⟩] [] = (0, w)))) := by
  have e0 : ((0 : Int) = 2) = False := by simp
  have e1 : ((1 : Int) = 2) = False := by simp
  by_cases h : Ok g w False [⟨true, g.start⟩] 0
  · right
    refine ⟨?_, ?_⟩
    · rcases by_spec (kind := 0) hG hrc hw (by rw [e0]; exact h) with q | ⟨q, t, q1, q2⟩
      · exact .inl q
      · rw [q2 (by decide), List.append_nil] at q1
        exact .inr ⟨q, q1⟩
    · rcases by_spec (kind := 1) hG hrc hw (by rw [e1]; exact h) with q | ⟨q, t, q1, q2⟩
      · exact .inl q
      · rw [q2 (by decide), List.append_nil] at q1
        exact .inr ⟨q, q1⟩
  · left
    rw [by_no (kind := 0) (fun q => h (by have := (start_ok hG hrc hw).1 q; rwa [e0] at this)), by_no (kind := 1) (fun q => h (by have := (start_ok hG hrc hw).1 q; rwa [e1] at this))]
    exact ⟨rfl, rfl⟩

set_option maxHeartbeats 16000000 in
theorem f25 (g : Gr) (hg : g.Small) (w : List Int) (m : List Int) (hm : m.length < 2 ^ 60) : FH pg Tq 25 [.agg (eGr g), .ro (w.map eIn), .ro (m.map eIn)] h0 0 fun r _ _ => r = .bool true := by
  have h56 := f56 g hg m hm
  refine FH.of (N := 96) (rs := #[.tmp 6]) Try.func25 rfl rfl (of_decide_eq_true rfl) rfl (by decide) ?_
  refine W.rseq (k := 2) rfl fun K hK => ?_
  simp only [go_sem]
  refine hK _ _ _ ?_
  clear hK K
  refine W.seq ?_
  refine W.rseq (k := 2) rfl fun K hK => ?_
  simp only [go_sem]
  refine VCall.frz 6 f78 rfl ?_
  try simp only [go_sem]
  refine hK _ _ _ ?_
  clear hK K
  refine W.condF (by simp only [go_sem]) ?_
  refine W.skip ?_
  simp only [go_sem]
  refine W.seq ?_
  refine W.rseq (k := 14) rfl fun K hK => ?_
  simp only [go_sem]
  refine VCall.frz 6 (f79 g hg w) rfl ?_
  cases hlg : largeS g w with
  | true =>
    simp only [go_sem]
    refine hK _ _ _ ?_
    first | clear hK K | clear hK | skip
    refine W.condT (by simp only [go_sem]) ?_
    refine W.rseq (k := 1) rfl fun K hK => ?_
    simp only [go_sem]
    refine hK _ _ _ ?_
    clear hK K
    refine W.ret ?_
    simp only [go_sem]
  | false =>
    have hw40 := not_largeS hlg
    simp only [go_sem]
    refine VCall.frz 6 (f76 g hg w (by omega)) rfl ?_
    cases hf : fitG g w with
    | false =>
      simp only [go_sem]
      refine hK _ _ _ ?_
      first | clear hK K | clear hK | skip
      refine W.condT (by simp only [go_sem]) ?_
      refine W.rseq (k := 1) rfl fun K hK => ?_
      simp only [go_sem]
      refine hK _ _ _ ?_
      clear hK K
      refine W.ret ?_
      simp only [go_sem]
    | true =>
      by_cases hm1 : (m.length : Int) > 100
      · simp only [go_sem, List.length_map, decide_eq_true hm1]
        refine hK _ _ _ ?_
        first | clear hK K | clear hK | skip
        refine W.condT (by simp only [go_sem]) ?_
        refine W.rseq (k := 1) rfl fun K hK => ?_
        simp only [go_sem]
        refine hK _ _ _ ?_
        clear hK K
        refine W.ret ?_
        simp only [go_sem]
      simp only [go_sem, List.length_map, decide_eq_false hm1]
      refine hK _ _ _ ?_
      first | clear hK K | clear hK | skip
      refine W.condF (by simp only [go_sem]) ?_
      refine W.skip ?_
      simp only [go_sem]
      obtain ⟨l, h74, hl0, hl1⟩ := f74 g hg w (by omega)
      have hrc := hl1 hf
      have hw := fit_len hf
      have hG := fit_good hf
      have hA := f81 g hg w 0 l h74 hl0 hl1
      have hB := f81 g hg w 1 l h74 hl0 hl1
      rw [lead_by hrc (by decide) (by decide)] at hA hB
      have hlaw := ends_law hG hw hrc
      have hmA : ∀ l2, (byL g w 0 l).1 = 0 → repF g l2 [⟨true, g.start⟩] [] = (0, w) → lessL l2 (byL g w 0 l).2 = false := fun l2 q1 q2 => (by_ends (kind := 0) hG hrc hw (by decide) q1 q2).1 (by decide)
      have hmB : ∀ l2, (byL g w 1 l).1 = 0 → repF g l2 [⟨true, g.start⟩] [] = (0, w) → lessL (byL g w 1 l).2 l2 = false := fun l2 q1 q2 => (by_ends (kind := 1) hG hrc hw (by decide) q1 q2).2 rfl
      have hAl := by_len (g := g) (w := w) (kind := 0) (l := l)
      have hBl := by_len (g := g) (w := w) (kind := 1) (l := l)
      obtain ⟨A, hAe⟩ : ∃ A, A = byL g w 0 l := ⟨_, rfl⟩
      obtain ⟨B, hBe⟩ : ∃ B, B = byL g w 1 l := ⟨_, rfl⟩
      rw [← hAe] at hA hlaw hmA hAl
      rw [← hBe] at hB hlaw hmB hBl
      clear hAe hBe
      obtain ⟨eA, LA⟩ := A
      obtain ⟨eB, LB⟩ := B
      simp only at hA hB hlaw hmA hmB hAl hBl
      refine W.rseq (k := 8) rfl fun K hK => ?_
      simp only [go_sem]
      refine VCall.frz 6 hA rfl ?_
      try simp only [go_sem]
      refine hK _ _ _ ?_
      clear hK K
      refine W.rseq (k := 8) rfl fun K hK => ?_
      simp only [go_sem]
      refine VCall.frz 6 hB rfl ?_
      try simp only [go_sem]
      refine hK _ _ _ ?_
      clear hK K
      refine W.seq ?_
      by_cases hA0 : eA = 0
      · subst hA0
        by_cases hB0 : eB = 0
        · subst hB0
          have hlaw2 : repF g LA [⟨true, g.start⟩] [] = (0, w) ∧ repF g LB [⟨true, g.start⟩] [] = (0, w) := by
            rcases hlaw with h | ⟨h1, h2⟩
            · exact absurd h.1 (by decide)
            · rcases h1 with h1 | h1
              · exact absurd h1 (by decide)
              · rcases h2 with h2 | h2
                · exact absurd h2 (by decide)
                · exact ⟨h1.2, h2.2⟩
          refine W.rseq (k := 6) rfl fun K hK => ?_
          simp only [go_sem]
          refine hK _ _ _ ?_
          clear hK K
          refine W.condF (by simp only [go_sem]) ?_
          refine W.skip ?_
          simp only [go_sem]
          have c1 := f63 LB LA (by omega) (by omega)
          rw [hmA LB rfl hlaw2.2] at c1
          refine W.seq ?_
          refine W.rseq (k := 3) rfl fun K hK => ?_
          simp only [go_sem]
          refine VCall.frz 6 c1 rfl ?_
          try simp only [go_sem]
          refine hK _ _ _ ?_
          clear hK K
          refine W.condF (by simp only [go_sem]) ?_
          refine W.skip ?_
          simp only [go_sem]
          have hrp := replay_rep hG.right (l := m) (by omega)
          have hwl := replay_wlen (g := g) (l := m)
          obtain ⟨V, hV⟩ : ∃ V, V = replayL g m := ⟨_, rfl⟩
          rw [← hV] at h56 hrp hwl
          clear hV
          obtain ⟨eV, LV⟩ := V
          simp only at h56 hwl
          refine W.rseq (k := 8) rfl fun K hK => ?_
          simp only [go_sem]
          refine VCall.frz 6 h56 rfl ?_
          try simp only [go_sem]
          refine hK _ _ _ ?_
          clear hK K
          refine W.seq ?_
          by_cases hV0 : eV = 0
          · subst hV0
            have c2 := f59 LV w (by omega) (by omega)
            by_cases hvw : LV = w
            · subst hvw
              rw [beq_self_eq_true] at c2
              refine W.rseq (k := 8) rfl fun K hK => ?_
              simp only [go_sem]
              refine VCall.frz 6 c2 rfl ?_
              simp only [go_sem]
              refine hK _ _ _ ?_
              first | clear hK K | clear hK | skip
              refine W.condF (by simp only [go_sem]) ?_
              refine W.skip ?_
              simp only [go_sem]
              have c3 := f63 m LA hm (by omega)
              rw [hmA m rfl hrp.symm] at c3
              have c4 := f63 LB m (by omega) hm
              rw [hmB m rfl hrp.symm] at c4
              have c5 := f59 LA LB (by omega) (by omega)
              refine W.rseq (k := 22) rfl fun K hK => ?_
              simp only [go_sem]
              refine VCall.frz 6 c3 rfl ?_
              simp only [go_sem]
              refine VCall.frz 6 c4 rfl ?_
              simp only [go_sem]
              refine VCall.frz 6 c5 rfl ?_
              by_cases hab : LA = LB
              · have hAm : LA = m := Classical.byContradiction fun e => by
                  rcases less_total e with q | q
                  · have := hmB m rfl hrp.symm
                    rw [← hab, q] at this
                    cases this
                  · have := hmA m rfl hrp.symm
                    rw [q] at this
                    cases this
                have c6 := f59 LA m (by omega) hm
                rw [hAm, beq_self_eq_true] at c6
                subst hab
                subst hAm
                simp only [go_sem, beq_self_eq_true]
                refine VCall.frz 6 c6 rfl ?_
                simp only [go_sem]
                refine hK _ _ _ ?_
                first | clear hK K | clear hK | skip
                refine W.ret ?_
                simp only [go_sem]
              · simp only [go_sem, show (LA == LB) = false from beq_eq_false_iff_ne.2 hab]
                refine hK _ _ _ ?_
                first | clear hK K | clear hK | skip
                refine W.ret ?_
                simp only [go_sem]
            · rw [show (LV == w) = false from beq_eq_false_iff_ne.2 hvw] at c2
              refine W.rseq (k := 8) rfl fun K hK => ?_
              simp only [go_sem]
              refine VCall.frz 6 c2 rfl ?_
              simp only [go_sem]
              refine hK _ _ _ ?_
              first | clear hK K | clear hK | skip
              refine W.condT (by simp only [go_sem]) ?_
              refine W.rseq (k := 1) rfl fun K hK => ?_
              simp only [go_sem]
              refine hK _ _ _ ?_
              clear hK K
              refine W.ret ?_
              simp only [go_sem]
          · refine W.rseq (k := 8) rfl fun K hK => ?_
            simp only [go_sem, decide_eq_false hV0]
            refine hK _ _ _ ?_
            first | clear hK K | clear hK | skip
            refine W.condT (by simp only [go_sem]) ?_
            refine W.rseq (k := 1) rfl fun K hK => ?_
            simp only [go_sem]
            refine hK _ _ _ ?_
            clear hK K
            refine W.ret ?_
            simp only [go_sem]
        · have hB5 : eB = 5 := by
            rcases hlaw with h | ⟨h1, h2⟩
            · exact absurd h.1 (by decide)
            · rcases h2 with h2 | h2
              · exact h2
              · exact absurd h2.1 hB0
          subst hB5
          refine W.rseq (k := 6) rfl fun K hK => ?_
          simp only [go_sem]
          refine hK _ _ _ ?_
          clear hK K
          refine W.condT (by simp only [go_sem]) ?_
          refine W.rseq (k := 12) rfl fun K hK => ?_
          simp only [go_sem]
          refine hK _ _ _ ?_
          clear hK K
          refine W.ret ?_
          simp only [go_sem]
      · have hx : (eA = 11 ∧ eB = 11) ∨ eA = 5 := by
          rcases hlaw with h | ⟨h1, h2⟩
          · exact .inl h
          · rcases h1 with h1 | h1
            · exact .inr h1
            · exact absurd h1.1 hA0
        rcases hx with ⟨rfl, rfl⟩ | rfl
        · refine W.rseq (k := 6) rfl fun K hK => ?_
          simp only [go_sem]
          refine hK _ _ _ ?_
          clear hK K
          refine W.condT (by simp only [go_sem]) ?_
          refine W.rseq (k := 12) rfl fun K hK => ?_
          simp only [go_sem]
          refine hK _ _ _ ?_
          clear hK K
          refine W.ret ?_
          simp only [go_sem]
        · refine W.rseq (k := 6) rfl fun K hK => ?_
          simp only [go_sem]
          refine hK _ _ _ ?_
          clear hK K
          refine W.condT (by simp only [go_sem]) ?_
          refine W.rseq (k := 12) rfl fun K hK => ?_
          simp only [go_sem]
          refine hK _ _ _ ?_
          clear hK K
          refine W.ret ?_
          simp only [go_sem]

end Go.Av

