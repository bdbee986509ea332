/-
  Layer 15's statements TreeComes, TreeApart: the walks. Conditions: none.
-/
import Derived.Test.YtiiogleijmcccaaT10
import Derived.Test.YtiiogleijmcccaaL6
namespace Go.Av
open Go.Proofs
set_option maxRecDepth 100000
set_option linter.unusedSimpArgs false
set_option linter.unusedVariables false

theorem f64 (g : Gr) (hg : g.Small) (hd : g.Dom) (hs : 0 ≤ g.start ∧ g.start < g.nons) (w : List Int) (hw : w.length < 2 ^ 30) : PF pg Tq 64 [.agg (eGr g), .ro (w.map eIn)] (.bool (spanF g w g.start.toNat 0 w.length)) := by
  obtain ⟨σ, hσ⟩ : ∃ σ : Nat, g.start = σ := ⟨g.start.toNat, by omega⟩
  obtain ⟨M, hM⟩ : ∃ M, M = g.nons.toNat := ⟨_, rfl⟩
  have h36 := f36 g hg hd w hw
  rw [← hM] at h36
  have hσM : σ < M := by omega
  have e1 := e3_get (n := M) (m := w.length + 1) (k := w.length + 1) (f := spanF g w) hσM
  have e2 := e2_get (m := w.length + 1) (k := w.length + 1) (f := spanF g w σ) (show 0 < w.length + 1 by omega)
  have e3 := e1_get (k := w.length + 1) (j := w.length) (f := spanF g w σ 0) (by omega)
  refine Fb ?_
  refine FH.of (N := 18) (rs := #[.tmp 4]) Try.func64 rfl rfl (of_decide_eq_true rfl) rfl (by decide) ?_
  refine W.rseq (k := 2) rfl fun K hK => ?_
  simp only [go_sem]
  refine hK _ _ _ ?_
  clear hK K
  refine W.dseq (k := 14) rfl fun K hK => ?_
  simp only [go_sem]
  refine VCall.frz 6 h36 rfl ?_
  simp only [go_sem, hσ, e1, e2, e3]
  refine hK _ _ _ _ (by kernel_rfl) ?_
  clear hK K
  refine W.ret ?_
  simp only [go_sem]
  rw [hσ, Int.toNat_natCast]

theorem replay_err {g : Gr} {l : List Int} (h : (replayL g l).1 ≠ 0) : (replayL g l).2 = [] := by
  unfold replayL at h ⊢
  split
  · rename_i hr
    rw [if_pos hr] at h
    split
    · rfl
    · rename_i h2
      rw [if_neg h2] at h
      rcases rep_err (g := g) l [⟨true, g.start⟩] [] with h1 | ⟨_, h1⟩ | ⟨_, h1⟩
      · exact absurd h1 h
      · exact h1
      · exact h1
  · rfl

theorem replay_ok {g : Gr} {l : List Int} (h : (replayL g l).1 = 0) : right g = true ∧ l.length ≤ 2000 ∧ repF g l [⟨true, g.start⟩] [] = (0, (replayL g l).2) := by
  unfold replayL at h ⊢
  split
  · rename_i hr
    rw [if_pos hr] at h
    split
    · rename_i h2; rw [if_pos h2] at h; cases h
    · rename_i h2
      rw [if_neg h2] at h
      exact ⟨hr, by omega, by rw [← h]⟩
  · rename_i hr; rw [if_neg hr] at h; cases h

theorem replay_comes {g : Gr} {l : List Int} (h : (replayL g l).1 = 0) : spanF g (replayL g l).2 g.start.toNat 0 (replayL g l).2.length = true := by
  obtain ⟨hr, _, h2⟩ := replay_ok h
  obtain ⟨_, _, ⟨h3, _⟩, _⟩ := right_in hr
  rw [spanF_iff]
  have := (rep_der l _ _ _ h2).2
  rw [show ((g.start.toNat : Nat) : Int) = g.start by omega]
  exact this

theorem replay_apart {g : Gr} {l m : List Int} (h : (replayL g l).1 = 0) (k : (replayL g m).1 = 0) (hne : l ≠ m) (hl : l.length ≤ m.length) : l ≠ m.take l.length := by
  intro e
  obtain ⟨_, _, h2⟩ := replay_ok h
  obtain ⟨_, _, k2⟩ := replay_ok k
  obtain ⟨d, hd⟩ : ∃ d, d = m.drop l.length := ⟨_, rfl⟩
  have hm : m = l ++ d := by rw [hd]; conv => lhs; rw [← List.take_append_drop l.length m, ← e]
  cases d with
  | nil => rw [List.append_nil] at hm; exact hne hm.symm
  | cons x d =>
    have := rep_prefix l _ _ _ x d h2
    rw [← hm, k2] at this
    cases this

theorem replay_len {g : Gr} {l : List Int} : True := trivial

theorem f16 (g : Gr) (hg : g.Small) (l : List Int) (hl : l.length < 2 ^ 60) : FH pg Tq 16 [.agg (eGr g), .ro (l.map eIn)] h0 0 fun r _ _ => r = .bool true := by
  refine FH.of (N := 35) (rs := #[.tmp 4]) Try.func16 rfl rfl (of_decide_eq_true rfl) rfl (by decide) ?_
  refine W.rseq (k := 2) rfl fun K hK => ?_
  simp only [go_sem]
  refine hK _ _ _ ?_
  clear hK K
  refine W.seq ?_
  refine W.rseq (k := 2) rfl fun K hK => ?_
  simp only [go_sem]
  refine VCall.frz 6 f54 rfl ?_
  try simp only [go_sem]
  refine hK _ _ _ ?_
  clear hK K
  refine W.condF (by simp only [go_sem]) ?_
  refine W.skip ?_
  simp only [go_sem]
  refine W.seq ?_
  refine W.rseq (k := 7) rfl fun K hK => ?_
  have out : ∀ t h n, t 15 = .bool true → K t h n := by
    intro t h n e
    refine hK _ _ _ ?_
    clear hK K
    refine W.condT (by simp only [go_sem, e]) ?_
    refine W.rseq (k := 1) rfl fun K hK => ?_
    simp only [go_sem]
    refine hK _ _ _ ?_
    clear hK K
    refine W.ret ?_
    simp only [go_sem]
  simp only [go_sem]
  refine VCall.frz 6 (f28 g hg) rfl ?_
  rcases Bool.eq_false_or_eq_true (large g) with hL | hL
  · simp only [go_sem, hL]
    exact out _ _ _ rfl
  simp only [hL]
  by_cases h30 : (30 : Int) < l.length
  · simp only [go_sem, show decide ((l.length : Int) > 30) = true from decide_eq_true h30]
    exact out _ _ _ rfl
  simp only [go_sem, show decide ((l.length : Int) > 30) = false from decide_eq_false h30]
  clear out
  refine hK _ _ _ ?_
  first | clear hK K | clear hK | skip
  refine W.condF (by simp only [go_sem]) ?_
  refine W.skip ?_
  simp only [go_sem]
  refine W.rseq (k := 8) rfl fun K hK => ?_
  simp only [go_sem]
  refine VCall.frz 6 (f55 g hg l hl) rfl ?_
  try simp only [go_sem]
  refine hK _ _ _ ?_
  clear hK K
  refine W.seq ?_
  by_cases he : (replayL g l).1 = 0
  · refine W.rseq (k := 2) rfl fun K hK => ?_
    simp only [go_sem, he]
    refine hK _ _ _ ?_
    clear hK K
    refine W.condF (by simp only [go_sem]) ?_
    refine W.skip ?_
    simp only [go_sem]
    by_cases h6 : (6 : Int) < (replayL g l).2.length
    · refine W.rseq (k := 9) rfl fun K hK => ?_
      simp only [go_sem, show decide (((replayL g l).2.length : Int) > 6) = true from decide_eq_true h6]
      refine hK _ _ _ ?_
      clear hK K
      refine W.ret ?_
      simp only [go_sem]
    · obtain ⟨hr, _, _⟩ := replay_ok he
      refine W.rseq (k := 9) rfl fun K hK => ?_
      simp only [go_sem, show decide (((replayL g l).2.length : Int) > 6) = false from decide_eq_false h6]
      refine VCall.frz 6 (f64 g hg (right_dom hr) (right_in hr).2.2.1 (replayL g l).2 (by omega)) rfl ?_
      simp only [go_sem, replay_comes he]
      refine hK _ _ _ ?_
      first | clear hK K | clear hK | skip
      refine W.ret ?_
      simp only [go_sem]
  · refine W.rseq (k := 2) rfl fun K hK => ?_
    simp only [go_sem, show decide ((replayL g l).1 = 0) = false from decide_eq_false he]
    refine hK _ _ _ ?_
    clear hK K
    refine W.condT (by simp only [go_sem]) ?_
    refine W.rseq (k := 4) rfl fun K hK => ?_
    simp only [go_sem, replay_err he, List.map_nil, List.length_nil, Int.natCast_zero]
    refine hK _ _ _ ?_
    clear hK K
    refine W.ret ?_
    simp only [go_sem]

set_option maxHeartbeats 4000000 in
theorem f17 (g : Gr) (hg : g.Small) (l : List Int) (hl : l.length < 2 ^ 60) (m : List Int) (hm : m.length < 2 ^ 60) : FH pg Tq 17 [.agg (eGr g), .ro (l.map eIn), .ro (m.map eIn)] h0 0 fun r _ _ => r = .bool true := by
  refine FH.of (N := 98) (rs := #[.tmp 6]) Try.func17 rfl rfl (of_decide_eq_true rfl) rfl (by decide) ?_
  refine W.rseq (k := 2) rfl fun K hK => ?_
  simp only [go_sem]
  refine hK _ _ _ ?_
  clear hK K
  refine W.seq ?_
  refine W.rseq (k := 2) rfl fun K hK => ?_
  simp only [go_sem]
  refine VCall.frz 6 f54 rfl ?_
  try simp only [go_sem]
  refine hK _ _ _ ?_
  clear hK K
  refine W.condF (by simp only [go_sem]) ?_
  refine W.skip ?_
  simp only [go_sem]
  refine W.seq ?_
  refine W.rseq (k := 12) rfl fun K hK => ?_
  have out : ∀ t h n, t 25 = .bool true → K t h n := by
    intro t h n e
    refine hK _ _ _ ?_
    clear hK K
    refine W.condT (by simp only [go_sem, e]) ?_
    refine W.rseq (k := 1) rfl fun K hK => ?_
    simp only [go_sem]
    refine hK _ _ _ ?_
    clear hK K
    refine W.ret ?_
    simp only [go_sem]
  simp only [go_sem]
  refine VCall.frz 6 (f28 g hg) rfl ?_
  rcases Bool.eq_false_or_eq_true (large g) with hL | hL
  · simp only [go_sem, hL]
    exact out _ _ _ rfl
  simp only [hL]
  by_cases h20 : (200 : Int) < l.length
  · simp only [go_sem, show decide ((l.length : Int) > 200) = true from decide_eq_true h20]
    exact out _ _ _ rfl
  by_cases h21 : (200 : Int) < m.length
  · simp only [go_sem, show decide ((l.length : Int) > 200) = false from decide_eq_false h20, show decide ((m.length : Int) > 200) = true from decide_eq_true h21]
    exact out _ _ _ rfl
  simp only [go_sem, show decide ((l.length : Int) > 200) = false from decide_eq_false h20, show decide ((m.length : Int) > 200) = false from decide_eq_false h21]
  clear out
  refine hK _ _ _ ?_
  first | clear hK K | clear hK | skip
  refine W.condF (by simp only [go_sem]) ?_
  refine W.skip ?_
  simp only [go_sem]
  refine W.rseq (k := 8) rfl fun K hK => ?_
  simp only [go_sem]
  refine VCall.frz 6 (f55 g hg l hl) rfl ?_
  try simp only [go_sem]
  refine hK _ _ _ ?_
  clear hK K
  refine W.rseq (k := 8) rfl fun K hK => ?_
  simp only [go_sem]
  refine VCall.frz 6 (f55 g hg m hm) rfl ?_
  try simp only [go_sem]
  refine hK _ _ _ ?_
  clear hK K
  refine W.rseq (k := 4) rfl fun K hK => ?_
  simp only [go_sem]
  refine VCall.frz 6 (f59 l m hl hm) rfl ?_
  try simp only [go_sem]
  refine hK _ _ _ ?_
  clear hK K
  refine W.seq ?_
  have hlm := f62 l m hl hm
  have hml := f62 m l hm hl
  refine W.rseq (k := 32) rfl fun K hK => ?_
  have nx : ∀ (t' : Fr) (h' : Heap) (n' : Nat), t' 72 = .bool false → t' 1 = .ro (l.map eIn) → t' 2 = .ro (m.map eIn) → t' 8 = .int .i64 (replayL g l).1 → t' 10 = .int .i64 (replayL g m).1 → t' 11 = .bool (l == m) → K t' h' n' := by
    intro t h n c1 c2 c3 c4 c5 c6
    refine hK _ _ _ ?_
    refine W.condF (by simp only [go_sem, c1]) ?_
    refine W.skip ?_
    simp only [go_sem]
    by_cases he : (replayL g l).1 = 0
    · by_cases hf : (replayL g m).1 = 0
      · by_cases hs : l = m
        · refine W.rseq (k := 26) rfl fun K hK => ?_
          simp only [go_sem, c2, c3, c4, c5, c6, he, hf, show (l == m) = true from beq_iff_eq.2 hs]
          refine hK _ _ _ ?_
          clear hK K
          refine W.ret ?_
          simp only [go_sem]
        by_cases hln : (m.length : Int) < l.length
        · refine W.rseq (k := 26) rfl fun K hK => ?_
          simp only [go_sem, c2, c3, c4, c5, c6, he, hf, show (l == m) = false from beq_eq_false_iff_ne.2 hs, show decide ((l.length : Int) > (m.length : Int)) = true from decide_eq_true hln]
          refine hK _ _ _ ?_
          clear hK K
          refine W.ret ?_
          simp only [go_sem]
        have hap := replay_apart he hf hs (by omega)
        have hcut : ((m.map eIn).take l.length) = (m.take l.length).map eIn := by rw [List.map_take]
        have h59 := f59 l (m.take l.length) hl (by rw [List.length_take]; omega)
        refine W.rseq (k := 26) rfl fun K hK => ?_
        simp only [go_sem, c2, c3, c4, c5, c6, he, hf, show (l == m) = false from beq_eq_false_iff_ne.2 hs, show decide ((l.length : Int) > (m.length : Int)) = false from decide_eq_false hln, Nat.sub_zero, hcut, len_map (e := eIn) (sz := 1) (fun _ => rfl), Nat.zero_le, show l.length ≤ m.length by omega]
        refine VCall.frz 6 h59 rfl ?_
        simp only [go_sem, show (l == m.take l.length) = false from beq_eq_false_iff_ne.2 hap]
        refine hK _ _ _ ?_
        first | clear hK K | clear hK | skip
        refine W.ret ?_
        simp only [go_sem]
      · refine W.rseq (k := 26) rfl fun K hK => ?_
        simp only [go_sem, c2, c3, c4, c5, c6, he, show decide ((replayL g m).1 = 0) = false from decide_eq_false hf]
        refine hK _ _ _ ?_
        clear hK K
        refine W.ret ?_
        simp only [go_sem]
    · refine W.rseq (k := 26) rfl fun K hK => ?_
      simp only [go_sem, c2, c3, c4, c5, c6, show decide ((replayL g l).1 = 0) = false from decide_eq_false he]
      refine hK _ _ _ ?_
      clear hK K
      refine W.ret ?_
      simp only [go_sem]
  clear hK
  by_cases hs : l = m
  · have hsb : (l == m) = true := beq_iff_eq.2 hs
    have hir : lessL l m = false := by rw [← hs]; exact less_irrefl l
    simp only [go_sem, hsb]
    refine VCall.frz 6 hlm rfl ?_
    simp only [go_sem, hir, hsb]
    refine VCall.frz 6 hlm rfl ?_
    simp only [go_sem, hir, hsb]
    exact nx _ _ _ rfl rfl rfl rfl rfl (by rw [hsb]; rfl)
  · have hsb : (l == m) = false := beq_eq_false_iff_ne.2 hs
    rcases less_total hs with h | h
    · have h2 := less_asymm h
      simp only [go_sem, hsb]
      refine VCall.frz 6 hlm rfl ?_
      simp only [go_sem, h, hsb]
      refine VCall.frz 6 hml rfl ?_
      simp only [go_sem, h2, hsb]
      refine VCall.frz 6 hlm rfl ?_
      simp only [go_sem, h, hsb]
      exact nx _ _ _ rfl rfl rfl rfl rfl (by rw [hsb]; rfl)
    · have h2 := less_asymm h
      simp only [go_sem, hsb]
      refine VCall.frz 6 hlm rfl ?_
      simp only [go_sem, h2, hsb]
      refine VCall.frz 6 hlm rfl ?_
      simp only [go_sem, h2, hsb]
      refine VCall.frz 6 hml rfl ?_
      simp only [go_sem, h, hsb]
      exact nx _ _ _ rfl rfl rfl rfl rfl (by rw [hsb]; rfl)

end Go.Av

