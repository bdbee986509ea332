/-
  Layer 16: the rows of any word are as the document says. Conditions: none.
-/
import Derived.Test.YtiiogleijmcccaaY5
namespace Go.Av
open Go.Proofs
set_option maxRecDepth 100000
set_option linter.unusedSimpArgs false
set_option linter.unusedVariables false

theorem wd_prods {g : Gr} {n : Int} (h : Wd g [⟨true, n⟩]) : g.prods ≠ [] := by
  intro e
  obtain ⟨v, _, h⟩ := h
  obtain ⟨x, y, h⟩ : ∃ x y, Der g ([] ++ v ++ []) [⟨true, n⟩] x y := ⟨_, _, h [] []⟩
  generalize he : ([⟨true, n⟩] : List Sy) = l at h
  cases h with
  | nil h => cases he
  | term h hl => simp at he
  | non hp hrr hl => rw [e] at hp; cases hp

theorem fit_prods {g : Gr} {w : List Int} (h : fitG g w = true) : g.prods ≠ [] := by
  obtain ⟨⟨hn1, hn2⟩, _⟩ := right_in (fit_right h)
  exact wd_prods (fit_prd h 0 (by omega) (by omega))

set_option maxHeartbeats 8000000 in
theorem f20 (g : Gr) (hg : g.Small) (w : List Int) : FH pg Tq 20 [.agg (eGr g), .ro (w.map eIn)] h0 0 fun r _ _ => r = .bool true := by
  refine FH.of (N := 20) (rs := #[.tmp 4]) Try.func20 rfl rfl (of_decide_eq_true rfl) rfl (by decide) ?_
  refine W.rseq (k := 2) rfl fun K hK => ?_
  simp only [go_sem]
  refine hK _ _ _ ?_
  clear hK K
  refine W.seq ?_
  refine W.rseq (k := 2) rfl fun K hK => ?_
  simp only [go_sem]
  refine VCall.frz 6 f70 rfl ?_
  try simp only [go_sem]
  refine hK _ _ _ ?_
  clear hK K
  refine W.condF (by simp only [go_sem]) ?_
  refine W.skip ?_
  simp only [go_sem]
  refine W.dseq (k := 14) rfl fun K hK => ?_
  simp only [go_sem]
  refine VCall.frz 6 (f71 g hg w) rfl ?_
  cases hlg : largeW g w with
  | true =>
    simp only [go_sem]
    refine hK _ _ _ _ (by kernel_rfl) ?_
    clear hK K
    refine W.ret ?_
    simp only [go_sem]
  | false =>
    have hw40 := not_large hlg
    obtain ⟨l, h74, hl0, hl1⟩ := f74 g hg w (by omega)
    have h75 := f75 g hg w (by omega) fit_prods
    have hl : (if fitG g w = true then rwsW g w else []) = l ∧ l.length ≤ 100 := by
      cases hf : fitG g w
      · rw [hl0 hf]
        exact ⟨rfl, by decide⟩
      · exact ⟨(rwsW_c (fit_right hf) (fit_len hf)).uniq (hl1 hf), by have := (hl1 hf).1; omega⟩
    rw [hl.1] at h75
    have hll := hl.2
    simp only [go_sem]
    refine VCall.frz 6 h74 rfl ?_
    simp only [go_sem]
    refine VCall.frz 6 (f73 l (by omega)) rfl ?_
    simp only [go_sem]
    refine VCall.frz 6 h75 rfl ?_
    simp only [go_sem]
    refine VCall.frz 6 (f72 l (by omega)) rfl ?_
    simp only [go_sem]
    refine hK _ _ _ _ (by kernel_rfl) ?_
    clear hK K
    refine W.ret ?_
    simp only [go_sem]

end Go.Av

