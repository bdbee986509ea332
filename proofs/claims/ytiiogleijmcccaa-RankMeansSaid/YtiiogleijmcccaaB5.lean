/-
  Layer 9's statements: which grammars are looked at; when facts are the same. Conditions: none.
-/
import Derived.Test.YtiiogleijmcccaaB4
namespace Go.Av
open Go.Proofs
set_option maxRecDepth 100000
set_option linter.unusedSimpArgs false
set_option linter.unusedVariables false

def large (g : Gr) : Bool := decide (100 < (g.prods.length : Int)) || g.prods.any fun p => decide (20 < (p.right.length : Int))

theorem f28 (g : Gr) (hg : g.Small) : PF pg Tq 28 [.agg (eGr g)] (.bool (large g)) := by
  have hg1 : g.prods.length < 2 ^ 60 := hg.1
  refine Fb ?_
  refine FH.of (N := 21) (rs := #[.tmp 2]) Try.func28 rfl rfl (of_decide_eq_true rfl) rfl (by decide) ?_
  refine W.rseq (k := 2) rfl fun K hK => ?_
  simp only [go_sem]
  refine hK _ _ _ ?_
  clear hK K
  refine W.seq ?_
  refine W.rseq (k := 4) rfl fun K hK => ?_
  simp only [go_sem]
  refine hK _ _ _ ?_
  clear hK K
  refine W.cond rfl (fun hc => ?_) fun hc => ?_
  · refine W.rseq (k := 1) rfl fun K hK => ?_
    simp only [go_sem]
    refine hK _ _ _ ?_
    clear hK K
    refine W.ret ?_
    simp only [go_sem]
    simp only [large, hc]
    rfl
  refine W.skip ?_
  simp only [go_sem]
  have hbig := hc
  refine W.seq ?_
  refine W.rseq (k := 4) rfl fun K hK => ?_
  simp only [go_sem]
  refine hK _ _ _ ?_
  clear hK K
  refine W.block (W.while (fun m t h n => ∃ k : Nat, m = g.prods.length - k ∧ k ≤ g.prods.length ∧ t 10 = .ro (g.prods.map ePr) ∧ t 11 = .int .i64 g.prods.length ∧ t 12 = .int .i64 k ∧ ∀ x ∈ g.prods.take k, decide (20 < (x.right.length : Int)) = false) g.prods.length ⟨0, by simp, by simp, rfl, rfl, rfl, by simp⟩ fun m t h n ⟨k, i1, i2, i3, i4, i5, i6⟩ => ?_)
  refine W.rseq (k := 1) rfl fun K hK => ?_
  simp only [go_sem, i3, i4, i5]
  refine hK _ _ _ ?_
  clear hK K
  refine W.seq ?_
  refine W.cond rfl (fun hc => ?_) fun hc => ?_
  · refine W.skip ?_
    simp only [go_sem]
    have hk : k < g.prods.length := by simp at hc; omega
    obtain ⟨p, hp⟩ := get_some hk
    have hm : p ∈ g.prods := List.mem_of_getElem? hp
    refine W.seq (W.block ?_)
    refine W.rseq (k := 4) rfl fun K hK => ?_
    simp only [go_sem, i3, i4, i5, hp]
    refine hK _ _ _ ?_
    clear hK K
    refine W.rseq (k := 4) rfl fun K hK => ?_
    simp only [go_sem]
    refine hK _ _ _ ?_
    clear hK K
    refine W.cond rfl (fun hc2 => ?_) fun hc2 => ?_
    · refine W.rseq (k := 1) rfl fun K hK => ?_
      simp only [go_sem]
      refine hK _ _ _ ?_
      clear hK K
      refine W.ret ?_
      simp only [go_sem]
      have : (g.prods.any fun p => decide (20 < (p.right.length : Int))) = true := List.any_eq_true.2 ⟨p, hm, hc2⟩
      simp [large, this]
    · refine W.skip ?_
      simp only [go_sem]
      refine W.region (k := 2) rfl ?_
      simp only [go_sem, i5]
      refine ⟨g.prods.length - (k + 1), by omega, k + 1, rfl, by omega, i3, i4, ?_, ?_⟩
      · rw [wrap64 (by omega) (by omega)]; rfl
      · intro y hy
        rw [List.take_add_one, hp] at hy
        simp only [List.mem_append, Option.mem_toList, Option.mem_def, Option.some.injEq] at hy
        rcases hy with hy | rfl
        · exact i6 y hy
        · exact hc2
  · refine W.exit ?_
    simp only [go_sem]
    refine W.rseq (k := 1) rfl fun K hK => ?_
    simp only [go_sem]
    refine hK _ _ _ ?_
    clear hK K
    refine W.ret ?_
    simp only [go_sem]
    have hk : ¬ k < g.prods.length := by simp at hc; omega
    rw [List.take_of_length_le (by omega)] at i6
    have : (g.prods.any fun p => decide (20 < (p.right.length : Int))) = false := by rw [List.any_eq_false]; exact fun x hx => by simp [i6 x hx]
    simp only [large, hbig, this]
    rfl

theorem f29 (a b : List Fc) (ha : a.length < 2 ^ 60) (hb : b.length < 2 ^ 60) : PF pg Tq 29 [.ro (a.map eFc), .ro (b.map eFc)] (.bool (a == b)) := by
  refine Fb ?_
  refine FH.of (N := 26) (rs := #[.tmp 4]) Try.func29 rfl rfl (of_decide_eq_true rfl) rfl (by decide) ?_
  refine W.rseq (k := 1) rfl fun K hK => ?_
  simp only [go_sem]
  refine hK _ _ _ ?_
  clear hK K
  refine W.seq ?_
  refine W.rseq (k := 5) rfl fun K hK => ?_
  simp only [go_sem]
  refine hK _ _ _ ?_
  clear hK K
  refine W.cond rfl (fun hc => ?_) fun hc => ?_
  · refine W.rseq (k := 1) rfl fun K hK => ?_
    simp only [go_sem]
    refine hK _ _ _ ?_
    clear hK K
    refine W.ret ?_
    simp only [go_sem]
    have : ¬ a = b := by rintro rfl; simp at hc
    simp [this]
  refine W.skip ?_
  simp only [go_sem]
  have hl : a.length = b.length := by simp at hc; omega
  refine W.seq ?_
  refine W.rseq (k := 1) rfl fun K hK => ?_
  simp only [go_sem]
  refine hK _ _ _ ?_
  clear hK K
  refine W.block (W.while (fun m t h n => ∃ k : Nat, m = a.length - k ∧ k ≤ a.length ∧ t 0 = .ro (a.map eFc) ∧ t 1 = .ro (b.map eFc) ∧ t 5 = .int .i64 k ∧ a.take k = b.take k) a.length ⟨0, by simp, by simp, rfl, rfl, rfl, by simp⟩ fun m t h n ⟨k, e1, e2, e3, e4, e5, e6⟩ => ?_)
  clear hc
  refine W.seq ?_
  refine W.rseq (k := 4) rfl fun K hK => ?_
  simp only [go_sem, e3, e4, e5]
  refine hK _ _ _ ?_
  clear hK K
  refine W.cond rfl (fun hc => ?_) fun hc => ?_
  · refine W.skip ?_
    simp only [go_sem]
    have hk : k < a.length := by simp at hc; omega
    obtain ⟨fa, hfa⟩ := get_some hk
    obtain ⟨fb, hfb⟩ := get_some (hl ▸ hk : k < b.length)
    refine W.seq (W.block ?_)
    refine W.dseq (k := 9) rfl fun K hK => ?_
    simp only [go_sem, e3, e4, e5, hfa, hfb]
    refine hK _ _ _ _ (by kernel_rfl) ?_
    clear hK K
    refine W.cond rfl (fun hc2 => ?_) fun hc2 => ?_
    · refine W.rseq (k := 1) rfl fun K hK => ?_
      simp only [go_sem]
      refine hK _ _ _ ?_
      clear hK K
      refine W.ret ?_
      simp only [go_sem]
      have : ¬ a = b := by
        rintro rfl
        rw [hfa] at hfb
        cases hfb
        simp at hc2
      simp [this]
    · refine W.skip ?_
      simp only [go_sem]
      refine W.region (k := 3) rfl ?_
      simp only [go_sem, e5]
      refine ⟨a.length - (k + 1), by omega, k + 1, rfl, by omega, e3, e4, ?_, ?_⟩
      · rw [wrap64 (by omega) (by omega)]; rfl
      · simp at hc2
        rw [List.take_add_one, List.take_add_one, e6, hfa, hfb]
        simp [Prod.ext_iff, hc2]
  · refine W.exit ?_
    simp only [go_sem]
    have hk : ¬ k < a.length := by simp at hc; omega
    refine W.rseq (k := 1) rfl fun K hK => ?_
    simp only [go_sem]
    refine hK _ _ _ ?_
    clear hK K
    refine W.ret ?_
    simp only [go_sem]
    have : a = b := by
      rw [List.take_of_length_le (by omega), List.take_of_length_le (by omega)] at e6
      exact e6
    simp [this]

end Go.Av

