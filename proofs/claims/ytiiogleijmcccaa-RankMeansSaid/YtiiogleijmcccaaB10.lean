/-
  Layer 9: do facts show ranks? (the document's answer) Conditions: none.
-/
import Derived.Test.YtiiogleijmcccaaB9
namespace Go.Av
open Go.Proofs
set_option maxRecDepth 100000
set_option linter.unusedSimpArgs false
set_option linter.unusedVariables false

theorem f34 (g : Gr) (hg : g.Small) (l : List Fc) (hl : l.length < 2 ^ 60) (terms : Bool) : PF pg Tq 34 [.agg (eGr g), .ro (l.map eFc), .bool terms] (.bool (shows g l terms)) := by
  have hg1 : g.prods.length < 2 ^ 60 := hg.1
  refine Fb ?_
  refine FH.of (N := 122) (rs := #[.tmp 6]) Try.func34 rfl rfl (of_decide_eq_true rfl) rfl (by decide) ?_
  refine W.rseq (k := 2) rfl fun K hK => ?_
  simp only [go_sem]
  refine hK _ _ _ ?_
  clear hK K
  refine W.seq ?_
  refine W.rseq (k := 10) rfl fun K hK => ?_
  simp only [go_sem]
  refine VCall.frz 6 (f35 g hg) rfl ?_
  cases hr : right g
  · simp only [go_sem]
    refine hK _ _ _ ?_
    clear hK K
    refine W.condT rfl ?_
    refine W.rseq (k := 1) rfl fun K hK => ?_
    simp only [go_sem]
    refine hK _ _ _ ?_
    clear hK K
    refine W.ret ?_
    simp only [go_sem]
    simp [shows, hr]
  by_cases hlen : (l.length : Int) = g.nons
  rotate_left
  · simp only [go_sem, hlen]
    refine hK _ _ _ ?_
    clear hK K
    refine W.condT rfl ?_
    refine W.rseq (k := 1) rfl fun K hK => ?_
    simp only [go_sem]
    refine hK _ _ _ ?_
    clear hK K
    refine W.ret ?_
    simp only [go_sem]
    simp [shows, hlen]
  have hlen' : decide ((l.length : Int) = g.nons) = true := by simp [hlen]
  simp only [go_sem, hlen']
  refine hK _ _ _ ?_
  clear hK K
  refine W.condF rfl ?_
  refine W.skip ?_
  simp only [go_sem]
  have hIn : g.In l := right_In hr hlen
  refine W.seq ?_
  refine W.rseq (k := 1) rfl fun K hK => ?_
  simp only [go_sem]
  refine hK _ _ _ ?_
  clear hK K
  refine W.block (W.while (fun m t h n => ∃ k : Nat, m = l.length - k ∧ k ≤ l.length ∧ 0 < n ∧ t 1 = .ro (l.map eFc) ∧ t 2 = .bool terms ∧ t 3 = .ptr 0 0 0 ∧ t 7 = .int .i64 k ∧ h 0 = some (.cells [eGr g]) ∧ ShowAll g l terms k) l.length
    ⟨0, by simp, by simp, by omega, rfl, rfl, rfl, rfl, by simp only [go_sem], fun j f hj => absurd hj (by omega)⟩ fun m t h n ⟨k, i1, i2, i3, i4, i5, i6, i9, i10, i11⟩ => ?_)
  have z1 : ∀ i, ¬ (0 = n + i) := fun i => by omega
  have z2 : ∀ i, (0 < n + i) = True := fun i => by simp; omega
  refine W.seq ?_
  refine W.rseq (k := 4) rfl fun K hK => ?_
  simp only [go_sem, i6, i9, i10]
  refine hK _ _ _ ?_
  clear hK K
  refine W.cond rfl (fun hc => ?_) fun hc => ?_
  · refine W.skip ?_
    simp only [go_sem]
    have hk : k < l.length := by simp at hc; omega
    obtain ⟨⟨a, b⟩, hf⟩ := get_some hk
    have bad : showAt g l terms k (a, b) = false → shows g l terms = false := shows_false hf
    have good : showAt g l terms k (a, b) = true → ShowAll g l terms (k + 1) := i11.succ hf
    have hw : IntKind.wrap .i64 ((k : Int) + 1) = ((k + 1 : Nat) : Int) := wrap64 (by omega) (by omega)
    refine W.seq (W.block ?_)
    refine W.rseq (k := 6) rfl fun K hK => ?_
    simp only [go_sem, i4, i9, hf]
    refine hK _ _ _ ?_
    clear hK K
    refine W.seq ?_
    refine W.rseq (k := 13) rfl fun K hK => ?_
    simp only [go_sem]
    by_cases c1 : a < 0
    · simp only [go_sem, c1]
      refine hK _ _ _ ?_
      clear hK K
      refine W.condT rfl ?_
      refine W.rseq (k := 1) rfl fun K hK => ?_
      simp only [go_sem]
      refine hK _ _ _ ?_
      clear hK K
      refine W.ret ?_
      simp only [go_sem]
      rw [bad (by simp [showAt, c1])]
    simp only [go_sem, c1]
    by_cases c2 : a = 0
    · subst c2
      simp only [go_sem]
      by_cases c3 : b = 0
      · simp only [go_sem, c3]
        refine hK _ _ _ ?_
        clear hK K
        refine W.condF (by simp only [go_sem]) ?_
        refine W.skip ?_
        simp only [go_sem]
        refine W.seq ?_
        refine W.rseq (k := 3) rfl fun K hK => ?_
        simp only [go_sem]
        refine hK _ _ _ ?_
        clear hK K
        refine W.condT rfl ?_
        refine W.exit ?_
        simp only [go_sem]
        refine W.region (k := 3) rfl ?_
        simp only [go_sem, i9]
        exact ⟨l.length - (k + 1), by omega, k + 1, rfl, by omega, by omega, i4, i5, i6, by rw [hw], by simp only [go_sem, z1, i10], good (by simp [showAt, c3])⟩
      · simp only [go_sem, c3]
        refine hK _ _ _ ?_
        clear hK K
        refine W.condT (by simp only [go_sem]) ?_
        refine W.rseq (k := 1) rfl fun K hK => ?_
        simp only [go_sem]
        refine hK _ _ _ ?_
        clear hK K
        refine W.ret ?_
        simp only [go_sem]
        rw [bad (by simp [showAt, c3])]
    simp only [go_sem, c2]
    refine hK _ _ _ ?_
    clear hK K
    refine W.condF (by simp only [go_sem]) ?_
    refine W.skip ?_
    simp only [go_sem]
    refine W.seq ?_
    refine W.rseq (k := 3) rfl fun K hK => ?_
    simp only [go_sem]
    refine hK _ _ _ ?_
    clear hK K
    refine W.condF (by simp only [go_sem, c2]) ?_
    refine W.skip ?_
    simp only [go_sem]
    refine W.seq ?_
    refine W.rseq (k := 22) rfl fun K hK => ?_
    simp only [go_sem]
    by_cases c3 : b < 0
    · simp only [go_sem, c3]
      refine hK _ _ _ ?_
      clear hK K
      refine W.condT rfl ?_
      refine W.rseq (k := 1) rfl fun K hK => ?_
      simp only [go_sem]
      refine hK _ _ _ ?_
      clear hK K
      refine W.ret ?_
      simp only [go_sem]
      rw [bad (by simp [showAt, c1, c2, c3])]
    simp only [go_sem, c3, i6, z1, i10]
    by_cases c4 : (g.prods.length : Int) ≤ b
    · simp only [go_sem, c4]
      refine hK _ _ _ ?_
      clear hK K
      refine W.condT rfl ?_
      refine W.rseq (k := 1) rfl fun K hK => ?_
      simp only [go_sem]
      refine hK _ _ _ ?_
      clear hK K
      refine W.ret ?_
      simp only [go_sem]
      rw [bad (by simp [showAt, c1, c2, c3, show g.prods[b.toNat]? = none from List.getElem?_eq_none (by omega)])]
    obtain ⟨p, hp⟩ := get_some (show b.toNat < g.prods.length by omega)
    have hm : p ∈ g.prods := List.mem_of_getElem? hp
    have hb0 : 0 ≤ b := by omega
    simp only [go_sem, c4, i6, i9, z1, i10, hb0, hp]
    by_cases c5 : p.left = (k : Int)
    rotate_left
    · refine hK _ _ _ ?_
      clear hK K
      refine W.condT (by simp only [go_sem, c5]) ?_
      refine W.rseq (k := 1) rfl fun K hK => ?_
      simp only [go_sem]
      refine hK _ _ _ ?_
      clear hK K
      refine W.ret ?_
      simp only [go_sem]
      rw [bad (by simp [showAt, c1, c2, c3, hp, c5])]
    refine hK _ _ _ ?_
    clear hK K
    refine W.condF (by simp only [go_sem, c5]) ?_
    refine W.skip ?_
    simp only [go_sem]
    refine W.rseq (k := 1) rfl fun K hK => ?_
    simp only [go_sem]
    refine hK _ _ _ ?_
    clear hK K
    obtain ⟨bf, hbf⟩ : ∃ bf, bf = n + 8 := ⟨_, rfl⟩
    refine W.block (W.while (fun m t h n' => ∃ j : Nat, m = p.right.length - j ∧ j ≤ p.right.length ∧ bf < n' ∧ t 1 = .ro (l.map eFc) ∧ t 2 = .bool terms ∧ t 3 = .ptr 0 0 0 ∧ t 7 = .int .i64 k ∧ t 8 = .ptr bf 0 0 ∧ t 9 = .int .i64 j ∧ h 0 = some (.cells [eGr g]) ∧ h bf = some (.cells [[.int .i64 a, .int .i64 b]]) ∧ ∀ x ∈ p.right.take j, off l a terms x = false) p.right.length
      ⟨0, by simp, by simp, by omega, i4, i5, i6, i9, by simp only [go_sem, hbf], rfl, by simp only [go_sem, z1, i10], by simp only [go_sem, hbf], by simp⟩ fun m t h n' ⟨j, j1, j2, j3, j4, j5, j6, j7, j8, j9, j10, j11, j12⟩ => ?_)
    have x1 : ∀ i, ¬ (0 = n' + i) := fun i => by omega
    have x2 : ∀ i, ¬ (bf = n' + i) := fun i => by omega
    have x3 : ∀ i, (0 < n' + i) = True := fun i => by simp; omega
    have x4 : ∀ i, (bf < n' + i) = True := fun i => by simp; omega
    refine W.seq ?_
    refine W.rseq (k := 10) rfl fun K hK => ?_
    simp only [go_sem, j4, j5, j6, j7, j8, j9, j10, j11, hb0, hp]
    refine hK _ _ _ ?_
    clear hK K
    refine W.cond rfl (fun hc2 => ?_) fun hc2 => ?_
    · refine W.skip ?_
      simp only [go_sem]
      have hj : j < p.right.length := by simp at hc2; omega
      have hr8 := hg.2 p hm
      obtain ⟨s, hs⟩ := get_some hj
      have hms : s ∈ p.right := List.mem_of_getElem? hs
      refine W.seq (W.block ?_)
      refine W.rseq (k := 12) rfl fun K hK => ?_
      simp only [go_sem, j4, j5, j6, j7, j8, j9, j10, j11, hb0, hp, hs]
      refine hK _ _ _ ?_
      clear hK K
      have hit : off l a terms s = true → shows g l terms = false := fun h => by
        have : fits p l a terms = false := by
          have : p.right.any (off l a terms) = true := List.any_eq_true.2 ⟨s, hms, h⟩
          simp [fits, this]
        exact bad (by simp [showAt, c1, c2, c3, hp, c5, this])
      have miss : off l a terms s = false → ∀ x ∈ p.right.take (j + 1), off l a terms x = false := fun h y hy => by
        rw [List.take_add_one, hs] at hy
        simp only [List.mem_append, Option.mem_toList, Option.mem_def, Option.some.injEq] at hy
        rcases hy with hy | rfl
        · exact j12 y hy
        · exact h
      have hw2 : IntKind.wrap .i64 ((j : Int) + 1) = ((j + 1 : Nat) : Int) := wrap64 (by omega) (by omega)
      refine W.dseq (k := 31) rfl fun K hK => ?_
      simp only [go_sem, j4, j5, j6, j7, j8, j9, x1, x2, x3, x4, j10, j11]
      cases hn : s.non
      · cases terms
        · simp only [go_sem, j4, j5, j6, j7, j8, j9, x1, x2, x3, x4, j10, j11]
          refine hK _ _ _ _ (by kernel_rfl) ?_
          clear hK K
          refine W.condT rfl ?_
          refine W.rseq (k := 1) rfl fun K hK => ?_
          simp only [go_sem]
          refine hK _ _ _ ?_
          clear hK K
          refine W.ret ?_
          simp only [go_sem]
          rw [hit (by simp [off, hn])]
        · simp only [go_sem, j4, j5, j6, j7, j8, j9, x1, x2, x3, x4, j10, j11]
          refine hK _ _ _ _ (by kernel_rfl) ?_
          clear hK K
          refine W.condF rfl ?_
          refine W.skip ?_
          simp only [go_sem]
          refine W.region (k := 3) rfl ?_
          simp only [go_sem, j9]
          exact ⟨p.right.length - (j + 1), by omega, j + 1, rfl, by omega, by omega, j4, j5, j6, j7, j8, by rw [hw2], by simp only [go_sem, x1, j10], by simp only [go_sem, x2, j11], miss (by simp [off, hn])⟩
      · obtain ⟨h0, h1⟩ := (hIn p hm).2 s hms hn
        obtain ⟨b', hb'⟩ := fc_get h0 h1
        simp only [go_sem, j4, j5, j6, j7, j8, j9, x1, x2, x3, x4, j10, j11, h0, hb']
        by_cases d1 : rk l s.n < 1
        · simp only [go_sem, d1]
          refine hK _ _ _ _ (by kernel_rfl) ?_
          clear hK K
          refine W.condT rfl ?_
          refine W.rseq (k := 1) rfl fun K hK => ?_
          simp only [go_sem]
          refine hK _ _ _ ?_
          clear hK K
          refine W.ret ?_
          simp only [go_sem]
          rw [hit (by simp [off, hn, d1])]
        · simp only [go_sem, d1, j4, j5, j6, j7, j8, j9, x1, x2, x3, x4, j10, j11, h0, hb']
          refine hK _ _ _ _ (by kernel_rfl) ?_
          clear hK K
          refine W.cond rfl (fun hc3 => ?_) fun hc3 => ?_
          · refine W.rseq (k := 1) rfl fun K hK => ?_
            simp only [go_sem]
            refine hK _ _ _ ?_
            clear hK K
            refine W.ret ?_
            simp only [go_sem]
            rw [hit (by simp only [off, hn, hc3]; simp)]
          · refine W.skip ?_
            simp only [go_sem]
            refine W.region (k := 3) rfl ?_
            simp only [go_sem, j9]
            exact ⟨p.right.length - (j + 1), by omega, j + 1, rfl, by omega, by omega, j4, j5, j6, j7, j8, by rw [hw2], by simp only [go_sem, x1, j10], by simp only [go_sem, x2, j11], miss (by simp only [off, hn, hc3, d1]; simp)⟩
    · refine W.exit ?_
      simp only [go_sem]
      have hj : ¬ j < p.right.length := by simp at hc2; omega
      rw [List.take_of_length_le (by omega)] at j12
      have hfit : fits p l a terms = true := by
        have : p.right.any (off l a terms) = false := by rw [List.any_eq_false]; exact fun x hx => by simp [j12 x hx]
        simp [fits, this]
      refine W.region (k := 3) rfl ?_
      simp only [go_sem, j7]
      exact ⟨l.length - (k + 1), by omega, k + 1, rfl, by omega, by omega, j4, j5, j6, by rw [hw], j10, good (by simp [showAt, c1, c2, c3, hp, c5, hfit])⟩
  · refine W.exit ?_
    simp only [go_sem]
    refine W.rseq (k := 1) rfl fun K hK => ?_
    simp only [go_sem]
    refine hK _ _ _ ?_
    clear hK K
    refine W.ret ?_
    simp only [go_sem]
    have hk : k = l.length := by simp at hc; omega
    rw [shows_true hr hlen (hk ▸ i11)]

end Go.Av

