/-
  Layer 3, package gram and the document's answer: which grammar may be. Conditions: none.
-/
import Derived.Test.YtiiogleijmcccaaB1
namespace Go.Av
open Go.Proofs
set_option maxRecDepth 100000
set_option linter.unusedSimpArgs false
set_option linter.unusedVariables false

def bad (g : Gr) : Bool := decide (g.terms < 0) || decide (16 < g.terms) || decide (g.nons < 1) || decide (24 < g.nons) || decide (g.start < 0) || decide (g.nons ≤ g.start) || decide (60 < (g.prods.length : Int))

def right (g : Gr) : Bool := !bad g && g.prods.all (fitsP g)

theorem f87 (g : Gr) (hg : g.Small) : PF pg Tq 87 [.agg (eGr g)] (.bool (right g)) := by
  refine Fb ?_
  refine FH.of (N := 33) (rs := #[.tmp 2]) Try.func87 rfl rfl (of_decide_eq_true rfl) rfl (by decide) ?_
  refine W.rseq (k := 2) rfl fun K hK => ?_
  simp only [go_sem]
  refine hK _ _ _ ?_
  clear hK K
  refine W.seqk fun K hK => ?_
  have tail : ∀ t (h : Heap) n, t 1 = .ptr 0 0 0 → h 0 = some (.cells [eGr g]) → bad g = false → K t h n := by
    intro t h n e1 e0 hb
    refine hK _ _ _ ?_
    clear hK K
    refine W.rseq (k := 6) rfl fun K hK => ?_
    simp only [go_sem, e1, e0]
    refine VCall.frzq 6 (by simp only [rfs, rf, e0, List.mapM_cons, List.mapM_nil]; rfl) (f118 g.prods 119 [.rp (eGr g) 0] (fun p => !fitsP g p) hg.1 (fun p hp => f119 g p (hg.2 p hp)) (fun _ => rfl) rfl) ?_
    simp only [go_sem]
    refine hK _ _ _ ?_
    clear hK K
    refine W.ret ?_
    simp only [go_sem]
    simp [right, hb, List.any_eq_not_all_not]
  clear hK
  refine W.block (W.seqk fun K2 hK => ?_)
  have mid : ∀ t (h : Heap) n b, t 1 = .ptr 0 0 0 → t 3 = .bool b → h 0 = some (.cells [eGr g]) → b = bad g → K2 t h n := by
    intro t h n b e1 e3 e0 hb
    refine hK _ _ _ ?_
    refine W.cond (r := b) (by simp only [go_sem, e3]) (fun hc => ?_) fun hc => ?_
    · refine W.rseq (k := 1) rfl fun K hK => ?_
      simp only [go_sem]
      refine hK _ _ _ ?_
      clear hK K
      refine W.ret ?_
      simp only [go_sem]
      simp [right, ← hb, hc]
    · refine W.skip ?_
      simp only [go_sem]
      exact tail _ _ _ e1 e0 (by rw [← hb, hc])
  clear hK tail
  refine W.rseq (k := 4) rfl fun K hK => ?_
  simp only [go_sem]
  refine hK _ _ _ ?_
  clear hK K
  refine W.cond rfl (fun hc => ?_) fun hc => ?_
  · refine W.skip ?_
    simp only [go_sem]
    exact mid _ _ _ _ rfl rfl rfl (by rw [hc]; simp at hc; simp [bad, hc])
  have c1 := hc
  refine W.rseq (k := 4) rfl fun K hK => ?_
  simp only [go_sem]
  refine hK _ _ _ ?_
  clear hK K
  refine W.cond rfl (fun hc => ?_) fun hc => ?_
  · refine W.skip ?_
    simp only [go_sem]
    exact mid _ _ _ _ rfl rfl rfl (by rw [hc]; simp at hc; simp [bad, hc])
  have c2 := hc
  refine W.rseq (k := 4) rfl fun K hK => ?_
  simp only [go_sem]
  refine hK _ _ _ ?_
  clear hK K
  refine W.cond rfl (fun hc => ?_) fun hc => ?_
  · refine W.skip ?_
    simp only [go_sem]
    exact mid _ _ _ _ rfl rfl rfl (by rw [hc]; simp at hc; simp [bad, hc])
  have c3 := hc
  refine W.rseq (k := 4) rfl fun K hK => ?_
  simp only [go_sem]
  refine hK _ _ _ ?_
  clear hK K
  refine W.cond rfl (fun hc => ?_) fun hc => ?_
  · refine W.skip ?_
    simp only [go_sem]
    exact mid _ _ _ _ rfl rfl rfl (by rw [hc]; simp at hc; simp [bad, hc])
  have c4 := hc
  refine W.rseq (k := 4) rfl fun K hK => ?_
  simp only [go_sem]
  refine hK _ _ _ ?_
  clear hK K
  refine W.cond rfl (fun hc => ?_) fun hc => ?_
  · refine W.skip ?_
    simp only [go_sem]
    exact mid _ _ _ _ rfl rfl rfl (by rw [hc]; simp at hc; simp [bad, hc])
  have c5 := hc
  refine W.rseq (k := 6) rfl fun K hK => ?_
  simp only [go_sem]
  refine hK _ _ _ ?_
  clear hK K
  refine W.cond rfl (fun hc => ?_) fun hc => ?_
  · refine W.skip ?_
    simp only [go_sem]
    exact mid _ _ _ _ rfl rfl rfl (by rw [hc]; simp at hc; simp [bad, hc])
  have c6 := hc
  refine W.region (k := 5) rfl ?_
  simp only [go_sem]
  exact mid _ _ _ _ rfl rfl rfl (by rw [bad, c1, c2, c3, c4, c5, c6]; rfl)

end Go.Av

