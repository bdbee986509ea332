/-
  Layer 10: does a nonterminal stand in a production? Conditions: none.
-/
import Derived.Test.YtiiogleijmcccaaBB
namespace Go.Av
open Go.Proofs
set_option maxRecDepth 100000
set_option linter.unusedSimpArgs false
set_option linter.unusedVariables false

attribute [go_sem] jump

def isN (n : Int) (s : Sy) : Bool := s.non && decide (s.n = n)

def stands (p : Pr) (n : Int) : Bool := p.right.any (isN n)

theorem any_none {α : Type} {q : α → Bool} {l : List α} {k : Nat} (h : ∀ x ∈ l.take k, q x = false) (hk : ¬ k < l.length) : l.any q = false := by
  rw [List.take_of_length_le (by omega)] at h
  simpa using h

theorem take_snoc_all {α : Type} {q : α → Bool} {l : List α} {k : Nat} {x : α} (h : ∀ x ∈ l.take k, q x = false) (hx : l[k]? = some x) (hq : q x = false) : ∀ x ∈ l.take (k + 1), q x = false := by
  intro y hy
  rw [List.take_add_one, hx] at hy
  simp at hy
  rcases hy with hy | rfl
  · exact h y hy
  · exact hq

theorem f92 (p : Pr) (n : Int) (hp : p.right.length < 2 ^ 60) : PF pg Tq 92 [.agg (ePr p), .int .i64 n] (.bool (stands p n)) := by
  refine Fb ?_
  refine FH.of (N := 29) (rs := #[.tmp 4]) Try.func92 rfl rfl (of_decide_eq_true rfl) rfl (by decide) ?_
  refine W.rseq (k := 2) rfl fun K hK => ?_
  simp only [go_sem]
  refine hK _ _ _ ?_
  clear hK K
  refine W.seq ?_
  refine W.rseq (k := 1) rfl fun K hK => ?_
  simp only [go_sem]
  refine hK _ _ _ ?_
  clear hK K
  refine W.block (W.while (fun m t h n' => ∃ k : Nat, m = p.right.length - k ∧ k ≤ p.right.length ∧ h 0 = some (.cells [ePr p]) ∧ t 1 = .int .i64 n ∧ t 2 = .ptr 0 0 0 ∧ t 5 = .int .i64 k ∧ ∀ x ∈ p.right.take k, isN n x = false) p.right.length
    ⟨0, by simp, by simp, by simp only [go_sem], rfl, rfl, rfl, by simp⟩ fun m t h n' ⟨k, i1, i2, i3, i4, i5, i6, i7⟩ => ?_)
  refine W.seq ?_
  refine W.rseq (k := 5) rfl fun K hK => ?_
  simp only [go_sem, i3, i5, i6]
  refine hK _ _ _ ?_
  clear hK K
  refine W.cond rfl (fun hc => ?_) fun hc => ?_
  · refine W.skip ?_
    simp only [go_sem]
    have hk : k < p.right.length := by simp at hc; omega
    obtain ⟨s, hs⟩ := get_some hk
    refine W.seq (W.block ?_)
    refine W.rseq (k := 16) rfl fun K hK => ?_
    cases hn : s.non
    · simp only [go_sem, i3, i5, i6, hs, hn]
      refine hK _ _ _ ?_
      clear hK K
      refine W.condF (by simp only [go_sem]) ?_
      refine W.skip ?_
      simp only [go_sem]
      refine W.region (k := 3) rfl ?_
      simp only [go_sem, i6]
      refine ⟨p.right.length - (k + 1), by omega, k + 1, rfl, by omega, i3, i4, i5, ?_, take_snoc_all i7 hs (by simp [isN, hn])⟩
      rw [wrap64 (by omega) (by omega)]; rfl
    · simp only [go_sem, i3, i4, i5, i6, hs, hn]
      refine hK _ _ _ ?_
      clear hK K
      refine W.cond rfl (fun hc2 => ?_) fun hc2 => ?_
      · refine W.rseq (k := 1) rfl fun K hK => ?_
        simp only [go_sem]
        refine hK _ _ _ ?_
        clear hK K
        refine W.ret ?_
        simp only [go_sem]
        have : stands p n = true := List.any_eq_true.2 ⟨s, List.mem_of_getElem? hs, by simpa [isN, hn] using hc2⟩
        rw [this]
      · refine W.skip ?_
        simp only [go_sem]
        refine W.region (k := 3) rfl ?_
        simp only [go_sem, i6]
        refine ⟨p.right.length - (k + 1), by omega, k + 1, rfl, by omega, i3, i4, i5, ?_, take_snoc_all i7 hs (by simpa [isN, hn] using hc2)⟩
        rw [wrap64 (by omega) (by omega)]; rfl
  · refine W.exit ?_
    simp only [go_sem]
    refine W.rseq (k := 1) rfl fun K hK => ?_
    simp only [go_sem]
    refine hK _ _ _ ?_
    clear hK K
    refine W.ret ?_
    simp only [go_sem]
    have hk : ¬ k < p.right.length := by simp at hc; omega
    have : stands p n = false := any_none i7 hk
    rw [this]

def eqS (s y : Sy) : Bool := (s.non == y.non) && decide (s.n = y.n)

end Go.Av

