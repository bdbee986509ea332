/-
  Layer 9, package rank: which productions are of symbols below a rank. Conditions: none.
-/
import Derived.Test.YtiiogleijmcccaaB3
namespace Go.Av
open Go.Proofs
set_option maxRecDepth 100000
set_option linter.unusedSimpArgs false
set_option linter.unusedVariables false

/-- A nonterminal's rank. -/
def rk (l : List Fc) (n : Int) : Int := (l.getD n.toNat (0, 0)).1

/-- Is a symbol none of those below a rank? -/
def off (l : List Fc) (below : Int) (terms : Bool) (s : Sy) : Bool := if s.non then decide (rk l s.n < 1) || decide (below ≤ rk l s.n) else !terms

def fits (p : Pr) (l : List Fc) (below : Int) (terms : Bool) : Bool := !(p.right.any (off l below terms))

/-- Symbols that have a place in the list. -/
def InL (p : Pr) (l : List Fc) : Prop := ∀ s ∈ p.right, s.non = true → 0 ≤ s.n ∧ s.n < l.length

theorem fc_get {l : List Fc} {n : Int} (h0 : 0 ≤ n) (h1 : n < l.length) : ∃ b, l[n.toNat]? = some (rk l n, b) := by
  have hn : n.toNat < l.length := by omega
  refine ⟨(l[n.toNat]).2, ?_⟩
  simp [rk, hn]

theorem f122 (s : Sy) (l : List Fc) (below : Int) (terms : Bool) (hs : s.non = true → 0 ≤ s.n ∧ s.n < l.length) : PF pg Tq 122 [.agg (eSy s), .rp [.bool terms] 0, .rp [.ro (l.map eFc)] 0, .rp [.int .i64 below] 0] (.bool (off l below terms s)) := by
  refine Fb ?_
  refine FH.of (N := 28) (rs := #[.tmp 5]) Try.func122 rfl rfl (of_decide_eq_true rfl) rfl (by decide) ?_
  refine W.rseq (k := 2) rfl fun K hK => ?_
  simp only [go_sem]
  refine hK _ _ _ ?_
  clear hK K
  refine W.seq ?_
  refine W.rseq (k := 3) rfl fun K hK => ?_
  simp only [go_sem]
  refine hK _ _ _ ?_
  clear hK K
  cases hn : s.non
  · refine W.condT rfl ?_
    refine W.rseq (k := 3) rfl fun K hK => ?_
    simp only [go_sem]
    refine hK _ _ _ ?_
    clear hK K
    refine W.ret ?_
    simp only [go_sem]
    simp [off, hn]
  refine W.condF rfl ?_
  refine W.skip ?_
  simp only [go_sem]
  obtain ⟨h0, h1⟩ := hs hn
  obtain ⟨b, hb⟩ := fc_get h0 h1
  refine W.dseq (k := 18) rfl fun K hK => ?_
  simp only [go_sem, h0, h1, hb]
  by_cases c1 : rk l s.n < 1
  · simp only [go_sem, c1]
    refine hK _ _ _ _ (by kernel_rfl) ?_
    clear hK K
    refine W.ret ?_
    simp only [go_sem]
    simp [off, hn, c1]
  · simp only [go_sem, c1, h0, hb]
    refine hK _ _ _ _ (by kernel_rfl) ?_
    clear hK K
    refine W.ret ?_
    simp only [go_sem]
    simp [off, hn, c1]

theorem f88 (p : Pr) (l : List Fc) (below : Int) (terms : Bool) (hr : p.right.length < 2 ^ 60) (hp : InL p l) : PF pg Tq 88 [.agg (ePr p), .ro (l.map eFc), .int .i64 below, .bool terms] (.bool (fits p l below terms)) := by
  refine Fb ?_
  refine FH.of (N := 14) (rs := #[.tmp 8]) Try.func88 rfl rfl (of_decide_eq_true rfl) rfl (by decide) ?_
  refine W.rseq (k := 5) rfl fun K hK => ?_
  simp only [go_sem]
  refine hK _ _ _ ?_
  clear hK K
  refine W.rseq (k := 6) rfl fun K hK => ?_
  simp only [go_sem]
  refine VCall.frzq 6 rfl (f121 p.right 122 [.rp [.bool terms] 0, .rp [.ro (l.map eFc)] 0, .rp [.int .i64 below] 0] (off l below terms) hr (fun s hs => f122 s l below terms (hp s hs)) (fun _ => rfl) rfl) ?_
  try simp only [go_sem]
  refine hK _ _ _ ?_
  clear hK K
  refine W.ret ?_
  simp only [go_sem]
  simp [fits]

/-- As the document's answer has it: of rank 0, in place of below 1. -/
def off0 (l : List Fc) (below : Int) (terms : Bool) (s : Sy) : Bool := if s.non then decide (rk l s.n = 0) || decide (below ≤ rk l s.n) else !terms

theorem f86 (p : Pr) (l : List Fc) (below : Int) (terms : Bool) (hr : p.right.length < 2 ^ 60) (hp : InL p l) : PF pg Tq 86 [.agg (ePr p), .ro (l.map eFc), .int .i64 below, .bool terms] (.bool (!(p.right.any (off0 l below terms)))) := by
  refine Fb ?_
  refine FH.of (N := 53) (rs := #[.tmp 8]) Try.func86 rfl rfl (of_decide_eq_true rfl) rfl (by decide) ?_
  refine W.rseq (k := 2) rfl fun K hK => ?_
  simp only [go_sem]
  refine hK _ _ _ ?_
  clear hK K
  refine W.seq ?_
  refine W.rseq (k := 1) rfl fun K hK => ?_
  simp only [go_sem]
  refine hK _ _ _ ?_
  clear hK K
  refine W.block (W.while (fun m t h n => ∃ k : Nat, m = p.right.length - k ∧ k ≤ p.right.length ∧ 0 < n ∧ t 1 = .ro (l.map eFc) ∧ t 2 = .int .i64 below ∧ t 3 = .bool terms ∧ t 4 = .ptr 0 0 0 ∧ t 9 = .int .i64 k ∧ h 0 = some (.cells [ePr p]) ∧ ∀ x ∈ p.right.take k, off0 l below terms x = false) p.right.length ⟨0, by simp, by simp, by omega, rfl, rfl, rfl, rfl, rfl, rfl, by simp⟩ fun m t h n ⟨k, j1, j2, j3, j4, j5, j6, j7, j8, j9, j10⟩ => ?_)
  have z1 : ∀ i, ¬ (0 = n + i) := fun i => by omega
  refine W.seq ?_
  refine W.rseq (k := 5) rfl fun K hK => ?_
  simp only [go_sem, j4, j5, j6, j7, j8, j9]
  refine hK _ _ _ ?_
  clear hK K
  refine W.cond rfl (fun hc => ?_) fun hc => ?_
  · refine W.skip ?_
    simp only [go_sem]
    have hj : k < p.right.length := by simp at hc; omega
    obtain ⟨s, hs⟩ := get_some hj
    have hms : s ∈ p.right := List.mem_of_getElem? hs
    refine W.seq (W.block ?_)
    refine W.rseq (k := 7) rfl fun K hK => ?_
    simp only [go_sem, j4, j5, j6, j7, j8, j9, hs, z1]
    refine hK _ _ _ ?_
    clear hK K
    refine W.rseq (k := 30) rfl fun K hK => ?_
    have mid3 : ∀ t (h : Heap) n' b, t 52 = .bool b → b = off0 l below terms s → n < n' → t 1 = .ro (l.map eFc) → t 2 = .int .i64 below → t 3 = .bool terms → t 4 = .ptr 0 0 0 → t 9 = .int .i64 k → h 0 = some (.cells [ePr p]) → K t h n' := by
      intro t h n' b e52 hb hn' e1 e2 e3 e4 e9 e0
      refine hK _ _ _ ?_
      clear hK K
      refine W.cond (r := b) (by simp only [go_sem, e52]) (fun hc => ?_) fun hc => ?_
      · refine W.rseq (k := 1) rfl fun K hK => ?_
        simp only [go_sem]
        refine hK _ _ _ ?_
        clear hK K
        refine W.ret ?_
        simp only [go_sem]
        rw [hc] at hb
        have hx : (p.right.any (off0 l below terms)) = true := List.any_eq_true.2 ⟨s, hms, hb.symm⟩
        simp [hx]
      · refine W.skip ?_
        simp only [go_sem]
        refine W.region (k := 3) rfl ?_
        simp only [go_sem, e9]
        rw [hc] at hb
        refine ⟨p.right.length - (k + 1), by omega, k + 1, rfl, by omega, by omega, e1, e2, e3, e4, ?_, e0, ?_⟩
        · rw [wrap64 (by omega) (by omega)]; rfl
        · intro y hy
          rw [List.take_add_one, hs] at hy
          simp at hy
          rcases hy with hy | rfl
          · exact j10 y hy
          · exact hb.symm
    clear hK
    simp only [go_sem, j4, j5, j6, j7, j8, j9, z1]
    cases hn : s.non
    · simp only [go_sem, j6]
      cases terms
      · simp only [go_sem]
        exact mid3 _ _ _ _ rfl (by simp [off0, hn]) (by omega) j4 j5 j6 j7 j8 (by simp only [go_sem, j9, z1])
      · simp only [go_sem]
        exact mid3 _ _ _ _ rfl (by simp [off0, hn]) (by omega) j4 j5 j6 j7 j8 (by simp only [go_sem, j9, z1])
    · obtain ⟨h0, h1⟩ := hp s hms hn
      obtain ⟨b, hb⟩ := fc_get h0 h1
      simp only [go_sem, j4, h0, hb]
      by_cases c1 : rk l s.n = 0
      · simp only [go_sem, c1]
        exact mid3 _ _ _ _ rfl (by simp [off0, hn, c1]) (by omega) j4 j5 j6 j7 j8 (by simp only [go_sem, j9, z1])
      · simp only [go_sem, c1, j4, j5, h0, hb]
        exact mid3 _ _ _ _ rfl (by simp [off0, hn, c1]) (by omega) j4 j5 j6 j7 j8 (by simp only [go_sem, j9, z1])
  · refine W.exit ?_
    simp only [go_sem]
    refine W.rseq (k := 1) rfl fun K hK => ?_
    simp only [go_sem]
    refine hK _ _ _ ?_
    clear hK K
    refine W.ret ?_
    simp only [go_sem]
    have hk : ¬ k < p.right.length := by simp at hc; omega
    rw [List.take_of_length_le (by omega)] at j10
    have h1 : p.right.any (off0 l below terms) = false := by rw [List.any_eq_false]; exact fun x hx => by simp [j10 x hx]
    simp [h1]

end Go.Av

