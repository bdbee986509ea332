/-
  Layer 11: the set of symbols of a grammar. Conditions: none.
-/
import Derived.Test.YtiiogleijmcccaaF3
namespace Go.Av
open Go.Proofs
set_option maxRecDepth 100000
set_option linter.unusedSimpArgs false
set_option linter.unusedVariables false

def ofL (g : Gr) (l : List Sy) : Nat × Bool := if right g && l.all (there g) then rowW (firstL g) (ranksL g false) 0 l else (0, false)

theorem all_snoc {α : Type} {q : α → Bool} {l : List α} {k : Nat} {x : α} (h : ∀ x ∈ l.take k, q x = true) (hx : l[k]? = some x) (hq : q x = true) : ∀ x ∈ l.take (k + 1), q x = true := by
  intro y hy
  rw [List.take_add_one, hx] at hy
  simp at hy
  rcases hy with hy | rfl
  · exact h y hy
  · exact hq

theorem all_no {α : Type} {q : α → Bool} {l : List α} {k : Nat} {x : α} (hx : l[k]? = some x) (hq : q x = false) : l.all q = false := by
  rw [List.all_eq_false]
  exact ⟨x, List.mem_of_getElem? hx, by simp [hq]⟩

theorem there_syin {g : Gr} (hr : right g = true) {l : List Sy} (h : ∀ s ∈ l, there g s = true) : SyIn g.nons.toNat l := by
  obtain ⟨⟨h1, _⟩, ⟨_, h2⟩, _⟩ := right_in hr
  intro s hs
  have := h s hs
  unfold there at this
  simp only [Bool.and_eq_true, decide_eq_true_eq] at this
  refine ⟨this.1, ?_⟩
  have h3 := this.2
  split
  · rename_i hn; rw [if_pos hn] at h3; omega
  · rename_i hn; rw [if_neg hn] at h3; omega

theorem f43 (g : Gr) (hg : g.Small) (l : List Sy) (hl : l.length < 2 ^ 60) : PF pg Tq 43 [.agg (eGr g), .ro (l.map eSy)] (.tup [.int .u32 ((ofL g l).1 : Nat), .bool (ofL g l).2]) := by
  have fin : FH pg Tq 43 [.agg (eGr g), .ro (l.map eSy)] h0 0 fun r _ _ => r = .tup [.int .u32 ((ofL g l).1 : Nat), .bool (ofL g l).2] := by
    refine FH.of (N := 52) (rs := #[.tmp 4, .tmp 5]) Try.func43 rfl rfl (of_decide_eq_true rfl) rfl (by decide) ?_
    refine W.rseq (k := 3) rfl fun K hK => ?_
    simp only [go_sem]
    refine hK _ _ _ ?_
    clear hK K
    refine W.seq ?_
    refine W.rseq (k := 3) rfl fun K hK => ?_
    simp only [go_sem]
    refine VCall.frz 6 (f87 g hg) rfl ?_
    try simp only [go_sem]
    refine hK _ _ _ ?_
    clear hK K
    cases hr : right g
    · refine W.condT (by simp only [go_sem]) ?_
      refine W.rseq (k := 2) rfl fun K hK => ?_
      simp only [go_sem]
      refine hK _ _ _ ?_
      clear hK K
      refine W.ret ?_
      simp only [go_sem]
      simp [ofL, hr]
    refine W.condF (by simp only [go_sem]) ?_
    refine W.skip ?_
    simp only [go_sem]
    refine W.seq ?_
    refine W.rseq (k := 3) rfl fun K hK => ?_
    simp only [go_sem]
    refine hK _ _ _ ?_
    clear hK K
    refine W.block (W.while (fun m t h n => ∃ k : Nat, m = l.length - k ∧ k ≤ l.length ∧ 0 < n ∧ t 1 = .ro (l.map eSy) ∧ t 2 = .ptr 0 0 0 ∧ t 11 = .ro (l.map eSy) ∧ t 12 = .int .i64 l.length ∧ t 13 = .int .i64 k ∧ h 0 = some (.cells [eGr g]) ∧ ∀ s ∈ l.take k, there g s = true) l.length
      ⟨0, by simp, by simp, by omega, rfl, rfl, rfl, rfl, rfl, by simp only [go_sem], by simp⟩ fun m t h n ⟨k, i1, i2, i0, i3, i4, i5, i6, i7, i8, i9⟩ => ?_)
    refine W.rseq (k := 1) rfl fun K hK => ?_
    simp only [go_sem, i6, i7]
    refine hK _ _ _ ?_
    clear hK K
    refine W.seq ?_
    refine W.cond rfl (fun hc => ?_) fun hc => ?_
    · refine W.skip ?_
      simp only [go_sem]
      have hk : k < l.length := by simp at hc; omega
      obtain ⟨s, hs⟩ := get_some hk
      have z0 : ∀ i, ¬ (0 = n + i) := fun i => by omega
      refine W.seq (W.block ?_)
      refine W.rseq (k := 4) rfl fun K hK => ?_
      simp only [go_sem, i5, i7, hs]
      refine hK _ _ _ ?_
      clear hK K
      refine W.rseq (k := 26) rfl fun K hK => ?_
      have bad : there g s = false → ∀ (t' : Fr) (h' : Heap) (n' : Nat), t' 42 = .bool true → K t' h' n' := by
        intro hb t' h' n' e
        refine hK _ _ _ ?_
        first | clear hK K | clear hK | skip
        refine W.condT (by simp only [go_sem, e]) ?_
        refine W.rseq (k := 2) rfl fun K hK => ?_
        simp only [go_sem]
        refine hK _ _ _ ?_
        clear hK K
        refine W.ret ?_
        simp only [go_sem]
        simp [ofL, all_no hs hb]
      have nx : there g s = true → ∀ (t' : Fr) (h' : Heap) (n' : Nat), t' 42 = .bool false → 0 < n' → t' 1 = .ro (l.map eSy) → t' 2 = .ptr 0 0 0 → t' 11 = .ro (l.map eSy) → t' 12 = .int .i64 l.length → t' 13 = .int .i64 k → h' 0 = some (.cells [eGr g]) → K t' h' n' := by
        intro hb t' h' n' e e0 e1 e2 e11 e12 e13 eh
        refine hK _ _ _ ?_
        first | clear hK K | clear hK | skip
        refine W.condF (by simp only [go_sem, e]) ?_
        refine W.skip ?_
        simp only [go_sem]
        refine W.region (k := 2) rfl ?_
        simp only [go_sem, e13]
        refine ⟨l.length - (k + 1), by omega, k + 1, rfl, by omega, by omega, e1, e2, e11, e12, ?_, eh, all_snoc i9 hs hb⟩
        rw [wrap64 (by omega) (by omega)]; rfl
      clear hK
      by_cases c1 : s.n < 0
      · simp only [go_sem, show decide (s.n < 0) = true by simp [c1]]
        exact bad (by unfold there; simp; omega) _ _ _ rfl
      have c1' : decide (s.n < 0) = false := by simp [c1]
      cases hn : s.non
      · by_cases c2 : g.terms ≤ s.n
        · simp only [go_sem, c1', hn, i4, i8, z0, show decide (g.terms ≤ s.n) = true by simp [c2]]
          exact bad (by simp [there, hn]; omega) _ _ _ rfl
        · simp only [go_sem, c1', hn, i4, i8, z0, show decide (g.terms ≤ s.n) = false by simp [c2]]
          exact nx (by simp [there, hn]; omega) _ _ _ rfl (by omega) i3 i4 i5 i6 i7 (by simp only [go_sem, z0, i8])
      · by_cases c2 : g.nons ≤ s.n
        · simp only [go_sem, c1', hn, i4, i8, z0, show decide (g.nons ≤ s.n) = true by simp [c2]]
          exact bad (by simp [there, hn]; omega) _ _ _ rfl
        · simp only [go_sem, c1', hn, i4, i8, z0, show decide (g.nons ≤ s.n) = false by simp [c2]]
          exact nx (by simp [there, hn]; omega) _ _ _ rfl (by omega) i3 i4 i5 i6 i7 (by simp only [go_sem, z0, i8])
    · refine W.exit ?_
      simp only [go_sem]
      have hk : k = l.length := by simp at hc; omega
      subst hk
      rw [List.take_length] at i9
      obtain ⟨f1, f2, _, _⟩ := first_fin hr
      obtain ⟨n1, _⟩ := ranks_fin (terms := false) hr
      obtain ⟨⟨hn1, _⟩, _⟩ := right_in hr
      have hin := there_syin hr i9
      have hof : ofL g l = rowW (firstL g) (ranksL g false) 0 l := by
        have : l.all (there g) = true := List.all_eq_true.2 i9
        simp [ofL, hr, this]
      rw [hof]
      refine W.dseq (k := 10) rfl fun K hK => ?_
      simp only [go_sem, i3, i4, i8, i0]
      refine VCall.frz 6 (OwnU3.pf (f45 g hg)) rfl ?_
      simp only [go_sem, i3, i4, i8, i0]
      refine VCall.frz 6 (OwnFc.pf (f30 g hg)) rfl ?_
      simp only [go_sem, i3]
      refine VCall.frz 6 (f94 l (firstL g) (ranksL g false) hl f2 (by omega) (by rw [f1]; exact hin)) rfl ?_
      simp only [go_sem]
      refine hK _ _ _ _ (by kernel_rfl) ?_
      clear hK K
      refine W.ret ?_
      simp only [go_sem]
  obtain ⟨r, h', n', hb, rfl⟩ := fin
  exact ⟨_, h', n', hb, 3, fun fr => by simp [rf, rfs]⟩

theorem f48 (g : Gr) (l : List Sy) (hl : l.length < 2 ^ 60) : PF pg Tq 48 [.agg (eGr g), .ro (l.map eSy)] (.bool (l.all (there g))) := by
  refine Fb ?_
  refine FH.of (N := 40) (rs := #[.tmp 4]) Try.func48 rfl rfl (of_decide_eq_true rfl) rfl (by decide) ?_
  refine W.rseq (k := 2) rfl fun K hK => ?_
  simp only [go_sem]
  refine hK _ _ _ ?_
  clear hK K
  refine W.seq ?_
  refine W.rseq (k := 3) rfl fun K hK => ?_
  simp only [go_sem]
  refine hK _ _ _ ?_
  clear hK K
  refine W.block (W.while (fun m t h n => ∃ k : Nat, m = l.length - k ∧ k ≤ l.length ∧ 0 < n ∧ t 2 = .ptr 0 0 0 ∧ t 7 = .ro (l.map eSy) ∧ t 8 = .int .i64 l.length ∧ t 9 = .int .i64 k ∧ h 0 = some (.cells [eGr g]) ∧ ∀ s ∈ l.take k, there g s = true) l.length
    ⟨0, by simp, by simp, by omega, rfl, rfl, rfl, rfl, by simp only [go_sem], by simp⟩ fun m t h n ⟨k, i1, i2, i0, i4, i5, i6, i7, i8, i9⟩ => ?_)
  refine W.rseq (k := 1) rfl fun K hK => ?_
  simp only [go_sem, i6, i7]
  refine hK _ _ _ ?_
  clear hK K
  refine W.seq ?_
  refine W.cond rfl (fun hc => ?_) fun hc => ?_
  · refine W.skip ?_
    simp only [go_sem]
    have hk : k < l.length := by simp at hc; omega
    obtain ⟨s, hs⟩ := get_some hk
    have z0 : ∀ i, ¬ (0 = n + i) := fun i => by omega
    refine W.seq (W.block ?_)
    refine W.rseq (k := 4) rfl fun K hK => ?_
    simp only [go_sem, i5, i7, hs]
    refine hK _ _ _ ?_
    clear hK K
    refine W.rseq (k := 26) rfl fun K hK => ?_
    have bad : there g s = false → ∀ (t' : Fr) (h' : Heap) (n' : Nat), t' 38 = .bool true → K t' h' n' := by
      intro hb t' h' n' e
      refine hK _ _ _ ?_
      first | clear hK K | clear hK | skip
      refine W.condT (by simp only [go_sem, e]) ?_
      refine W.rseq (k := 1) rfl fun K hK => ?_
      simp only [go_sem]
      refine hK _ _ _ ?_
      clear hK K
      refine W.ret ?_
      simp only [go_sem]
      rw [all_no hs hb]
    have nx : there g s = true → ∀ (t' : Fr) (h' : Heap) (n' : Nat), t' 38 = .bool false → 0 < n' → t' 2 = .ptr 0 0 0 → t' 7 = .ro (l.map eSy) → t' 8 = .int .i64 l.length → t' 9 = .int .i64 k → h' 0 = some (.cells [eGr g]) → K t' h' n' := by
      intro hb t' h' n' e e0 e2 e11 e12 e13 eh
      refine hK _ _ _ ?_
      first | clear hK K | clear hK | skip
      refine W.condF (by simp only [go_sem, e]) ?_
      refine W.skip ?_
      simp only [go_sem]
      refine W.region (k := 2) rfl ?_
      simp only [go_sem, e13]
      refine ⟨l.length - (k + 1), by omega, k + 1, rfl, by omega, by omega, e2, e11, e12, ?_, eh, all_snoc i9 hs hb⟩
      rw [wrap64 (by omega) (by omega)]; rfl
    clear hK
    by_cases c1 : s.n < 0
    · simp only [go_sem, show decide (s.n < 0) = true by simp [c1]]
      exact bad (by unfold there; simp; omega) _ _ _ rfl
    have c1' : decide (s.n < 0) = false := by simp [c1]
    cases hn : s.non
    · by_cases c2 : g.terms ≤ s.n
      · simp only [go_sem, c1', hn, i4, i8, z0, show decide (g.terms ≤ s.n) = true by simp [c2]]
        exact bad (by simp [there, hn]; omega) _ _ _ rfl
      · simp only [go_sem, c1', hn, i4, i8, z0, show decide (g.terms ≤ s.n) = false by simp [c2]]
        exact nx (by simp [there, hn]; omega) _ _ _ rfl (by omega) i4 i5 i6 i7 (by simp only [go_sem, z0, i8])
    · by_cases c2 : g.nons ≤ s.n
      · simp only [go_sem, c1', hn, i4, i8, z0, show decide (g.nons ≤ s.n) = true by simp [c2]]
        exact bad (by simp [there, hn]; omega) _ _ _ rfl
      · simp only [go_sem, c1', hn, i4, i8, z0, show decide (g.nons ≤ s.n) = false by simp [c2]]
        exact nx (by simp [there, hn]; omega) _ _ _ rfl (by omega) i4 i5 i6 i7 (by simp only [go_sem, z0, i8])
  · refine W.exit ?_
    simp only [go_sem]
    refine W.rseq (k := 1) rfl fun K hK => ?_
    simp only [go_sem]
    refine hK _ _ _ ?_
    clear hK K
    refine W.ret ?_
    simp only [go_sem]
    have hk : k = l.length := by simp at hc; omega
    subst hk
    rw [List.take_length] at i9
    rw [List.all_eq_true.2 i9]

end Go.Av

