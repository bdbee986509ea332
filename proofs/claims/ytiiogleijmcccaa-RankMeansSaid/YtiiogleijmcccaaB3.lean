/-
  The document's answer of layer 3: which grammar may be. Conditions: none.
-/
import Derived.Test.YtiiogleijmcccaaB2
namespace Go.Av
open Go.Proofs
set_option maxRecDepth 100000
set_option linter.unusedSimpArgs false
set_option linter.unusedVariables false

theorem right_false {g : Gr} {p : Pr} (hp : p ∈ g.prods) (h : fitsP g p = false) : right g = false := by
  have : g.prods.all (fitsP g) = false := by
    rw [List.all_eq_false]
    exact ⟨p, hp, by simp [h]⟩
  simp [right, this]

theorem f35 (g : Gr) (hg : g.Small) : PF pg Tq 35 [.agg (eGr g)] (.bool (right g)) := by
  have hg1 : g.prods.length < 2 ^ 60 := hg.1
  refine Fb ?_
  refine FH.of (N := 109) (rs := #[.tmp 2]) Try.func35 rfl rfl (of_decide_eq_true rfl) rfl (by decide) ?_
  refine W.rseq (k := 2) rfl fun K hK => ?_
  simp only [go_sem]
  refine hK _ _ _ ?_
  clear hK K
  refine W.seq ?_
  refine W.rseq (k := 36) rfl fun K hK => ?_
  have mid : ∀ t (h : Heap) n b, t 42 = .bool b → b = bad g → t 1 = .ptr 0 0 0 → h 0 = some (.cells [eGr g]) → K t h n := by
    intro t h n b e42 hb e1 e0
    refine hK _ _ _ ?_
    clear hK K
    refine W.cond (r := b) (by simp only [go_sem, e42]) (fun hc => ?_) fun hc => ?_
    · refine W.rseq (k := 1) rfl fun K hK => ?_
      simp only [go_sem]
      refine hK _ _ _ ?_
      clear hK K
      refine W.ret ?_
      simp only [go_sem]
      simp [right, ← hb, hc]
    refine W.skip ?_
    simp only [go_sem]
    have hbad : bad g = false := by rw [← hb, hc]
    clear hc e42 hb b
    refine W.seq ?_
    refine W.rseq (k := 1) rfl fun K hK => ?_
    simp only [go_sem]
    refine hK _ _ _ ?_
    clear hK K
    refine W.block (W.while (fun m t h n => ∃ k : Nat, m = g.prods.length - k ∧ k ≤ g.prods.length ∧ t 1 = .ptr 0 0 0 ∧ t 3 = .int .i64 k ∧ h 0 = some (.cells [eGr g]) ∧ ∀ x ∈ g.prods.take k, fitsP g x = true) g.prods.length ⟨0, by simp, by simp, e1, rfl, e0, by simp⟩ fun m t h n ⟨k, i1, i2, i3, i4, i5, i6⟩ => ?_)
    clear e1 e0
    refine W.seq ?_
    refine W.rseq (k := 5) rfl fun K hK => ?_
    simp only [go_sem, i3, i4, i5]
    refine hK _ _ _ ?_
    clear hK K
    refine W.cond rfl (fun hc => ?_) fun hc => ?_
    · refine W.skip ?_
      simp only [go_sem]
      have hk : k < g.prods.length := by simp at hc; omega
      obtain ⟨p, hp⟩ := get_some hk
      have hm : p ∈ g.prods := List.mem_of_getElem? hp
      have hr := hg.2 p hm
      have hlast : fitsP g p = true → ∀ x ∈ g.prods.take (k + 1), fitsP g x = true := by
        intro h1 y hy
        rw [List.take_add_one, hp] at hy
        simp at hy
        rcases hy with hy | rfl
        · exact i6 y hy
        · exact h1
      refine W.seq (W.block ?_)
      refine W.rseq (k := 7) rfl fun K hK => ?_
      simp only [go_sem, i3, i4, i5, hp]
      refine hK _ _ _ ?_
      clear hK K
      refine W.seq ?_
      refine W.rseq (k := 16) rfl fun K hK => ?_
      have mid2 : ∀ t (h : Heap) n' b bn, t 70 = .bool b → b = (decide (p.left < 0) || decide (g.nons ≤ p.left) || decide (8 < (p.right.length : Int))) → t 1 = .ptr 0 0 0 → t 3 = .int .i64 k → t 4 = .ptr bn 0 0 → h 0 = some (.cells [eGr g]) → h bn = some (.cells [ePr p]) → 0 < bn → bn < n' → K t h n' := by
        intro t h n' b bn e70 hb e1 e3 e4 e0 ebn b0 bn'
        refine hK _ _ _ ?_
        clear hK K
        refine W.cond (r := b) (by simp only [go_sem, e70]) (fun hc => ?_) fun hc => ?_
        · refine W.rseq (k := 1) rfl fun K hK => ?_
          simp only [go_sem]
          refine hK _ _ _ ?_
          clear hK K
          refine W.ret ?_
          simp only [go_sem]
          rw [right_false hm]
          rw [hc] at hb
          simp [fitsP, there]
          simp at hb
          omega
        refine W.skip ?_
        simp only [go_sem]
        rw [hc] at hb
        have hb' : (0 ≤ p.left ∧ p.left < g.nons) ∧ p.right.length ≤ 8 := by simp at hb; omega
        refine W.rseq (k := 1) rfl fun K hK => ?_
        simp only [go_sem]
        refine hK _ _ _ ?_
        clear hK K
        refine W.block (W.while (fun m t h n => ∃ j : Nat, m = p.right.length - j ∧ j ≤ p.right.length ∧ bn < n ∧ t 1 = .ptr 0 0 0 ∧ t 3 = .int .i64 k ∧ t 4 = .ptr bn 0 0 ∧ t 5 = .int .i64 j ∧ h 0 = some (.cells [eGr g]) ∧ h bn = some (.cells [ePr p]) ∧ ∀ x ∈ p.right.take j, there g x = true) p.right.length ⟨0, by simp, by simp, by omega, e1, e3, e4, rfl, e0, ebn, by simp⟩ fun m2 t h n ⟨j, j1, j2, j3, j4, j5, j6, j7, j8, j9, j10⟩ => ?_)
        have z1 : ∀ i, ¬ (0 = n + i) := fun i => by omega
        have z2 : ∀ i, ¬ (bn = n + i) := fun i => by omega
        refine W.seq ?_
        refine W.rseq (k := 5) rfl fun K hK => ?_
        simp only [go_sem, j4, j5, j6, j7, j8, j9]
        refine hK _ _ _ ?_
        clear hK K
        refine W.cond rfl (fun hc => ?_) fun hc => ?_
        · refine W.skip ?_
          simp only [go_sem]
          have hj : j < p.right.length := by simp at hc; omega
          obtain ⟨s, hs⟩ := get_some hj
          have hms : s ∈ p.right := List.mem_of_getElem? hs
          refine W.seq (W.block ?_)
          refine W.rseq (k := 7) rfl fun K hK => ?_
          simp only [go_sem, j4, j5, j6, j7, j8, j9, hs, z1, z2]
          refine hK _ _ _ ?_
          clear hK K
          refine W.rseq (k := 26) rfl fun K hK => ?_
          have mid3 : ∀ t (h : Heap) n' b, t 108 = .bool b → b = !there g s → n < n' → t 1 = .ptr 0 0 0 → t 3 = .int .i64 k → t 4 = .ptr bn 0 0 → t 5 = .int .i64 j → h 0 = some (.cells [eGr g]) → h bn = some (.cells [ePr p]) → K t h n' := by
            intro t h n' b e108 hb hn' e1 e3 e4 e5 e0 ebn
            refine hK _ _ _ ?_
            clear hK K
            refine W.cond (r := b) (by simp only [go_sem, e108]) (fun hc => ?_) fun hc => ?_
            · refine W.rseq (k := 1) rfl fun K hK => ?_
              simp only [go_sem]
              refine hK _ _ _ ?_
              clear hK K
              refine W.ret ?_
              simp only [go_sem]
              rw [right_false hm]
              rw [hc] at hb
              have hx : (p.right.any fun s => !there g s) = true := List.any_eq_true.2 ⟨s, hms, hb.symm⟩
              simp [fitsP, hx]
            · refine W.skip ?_
              simp only [go_sem]
              refine W.region (k := 3) rfl ?_
              simp only [go_sem, e5]
              rw [hc] at hb
              refine ⟨p.right.length - (j + 1), by omega, j + 1, rfl, by omega, by omega, e1, e3, e4, ?_, e0, ebn, ?_⟩
              · rw [wrap64 (by omega) (by omega)]; rfl
              · intro y hy
                rw [List.take_add_one, hs] at hy
                simp at hy
                rcases hy with hy | rfl
                · exact j10 y hy
                · simpa using hb.symm
          clear hK
          simp only [go_sem, j4, j5, j6, j7, j8, j9, z1, z2]
          have f1 : ∀ n', n < n + (n' + 1) := fun n' => by omega
          by_cases c1 : s.n < 0
          · simp only [go_sem, c1]
            exact mid3 _ _ _ _ rfl (by simp [there]; omega) (by omega) j4 j5 j6 j7 (by simp only [go_sem, j8, z1]) (by simp only [go_sem, j9, z2])
          simp only [go_sem, c1]
          cases c2 : s.non
          · simp only [go_sem, j4, j8, z1]
            by_cases c3 : g.terms ≤ s.n
            · simp only [go_sem, c3]
              exact mid3 _ _ _ _ rfl (by simp [there, c2]; omega) (by omega) j4 j5 j6 j7 (by simp only [go_sem, j8, z1]) (by simp only [go_sem, j9, z2])
            · simp only [go_sem, c3]
              exact mid3 _ _ _ _ rfl (by simp [there, c2]; omega) (by omega) j4 j5 j6 j7 (by simp only [go_sem, j8, z1]) (by simp only [go_sem, j9, z2])
          · simp only [go_sem, j4, j8, z1]
            by_cases c3 : g.nons ≤ s.n
            · simp only [go_sem, c3]
              exact mid3 _ _ _ _ rfl (by simp [there, c2]; omega) (by omega) j4 j5 j6 j7 (by simp only [go_sem, j8, z1]) (by simp only [go_sem, j9, z2])
            · simp only [go_sem, c3]
              exact mid3 _ _ _ _ rfl (by simp [there, c2]; omega) (by omega) j4 j5 j6 j7 (by simp only [go_sem, j8, z1]) (by simp only [go_sem, j9, z2])
        · refine W.exit ?_
          simp only [go_sem]
          have hj : ¬ j < p.right.length := by simp at hc; omega
          rw [List.take_of_length_le (by omega)] at j10
          refine W.region (k := 3) rfl ?_
          simp only [go_sem, j5]
          refine ⟨g.prods.length - (k + 1), by omega, k + 1, rfl, by omega, j4, ?_, j8, hlast ?_⟩
          · rw [wrap64 (by omega) (by omega)]; rfl
          · simp [fitsP, there, hb']
            exact fun x hx => by simpa [there] using j10 x hx
      clear hK
      simp only [go_sem, i3, i4, i5]
      by_cases c1 : p.left < 0
      · simp only [go_sem, c1]
        exact mid2 _ _ _ _ _ rfl (by simp [c1]) i3 i4 rfl (by simp only [go_sem, i5]) (by simp only [go_sem, i5]) (by omega) (by omega)
      simp only [go_sem, c1, i3, i5]
      by_cases c2 : g.nons ≤ p.left
      · simp only [go_sem, c2]
        exact mid2 _ _ _ _ _ rfl (by simp [c1, c2]) i3 i4 rfl (by simp only [go_sem, i5]) (by simp only [go_sem, i5]) (by omega) (by omega)
      simp only [go_sem, c2]
      exact mid2 _ _ _ _ _ rfl (by simp [c1, c2]) i3 i4 rfl (by simp only [go_sem, i5]) (by simp only [go_sem, i5]) (by omega) (by omega)
    · refine W.exit ?_
      simp only [go_sem]
      refine W.rseq (k := 1) rfl fun K hK => ?_
      simp only [go_sem]
      refine hK _ _ _ ?_
      clear hK K
      refine W.ret ?_
      simp only [go_sem]
      have hk : ¬ k < g.prods.length := by simp at hc; omega
      rw [List.take_of_length_le (by omega)] at i6
      simp [right, hbad]
      exact i6
  clear hK
  simp only [go_sem]
  by_cases c1 : g.terms < 0
  · simp only [go_sem, c1]
    exact mid _ _ _ _ rfl (by simp [bad, c1]) rfl rfl
  simp only [go_sem, c1]
  by_cases c2 : 16 < g.terms
  · simp only [go_sem, c2]
    exact mid _ _ _ _ rfl (by simp [bad, c2]) rfl rfl
  simp only [go_sem, c2]
  by_cases c3 : g.nons < 1
  · simp only [go_sem, c3]
    exact mid _ _ _ _ rfl (by simp [bad, c3]) rfl rfl
  simp only [go_sem, c3]
  by_cases c4 : 24 < g.nons
  · simp only [go_sem, c4]
    exact mid _ _ _ _ rfl (by simp [bad, c4]) rfl rfl
  simp only [go_sem, c4]
  by_cases c5 : g.start < 0
  · simp only [go_sem, c5]
    exact mid _ _ _ _ rfl (by simp [bad, c5]) rfl rfl
  simp only [go_sem, c5]
  by_cases c6 : g.nons ≤ g.start
  · simp only [go_sem, c6]
    exact mid _ _ _ _ rfl (by simp [bad, c6]) rfl rfl
  simp only [go_sem, c6]
  exact mid _ _ _ _ rfl (by simp [bad, c1, c2, c3, c4, c5, c6]) rfl rfl

end Go.Av

