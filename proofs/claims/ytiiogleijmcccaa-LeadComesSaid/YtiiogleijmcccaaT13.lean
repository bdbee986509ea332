/-
  Texts T12, T13 of this work, one behind the other. Conditions: none.
-/
import Derived.Test.YtiiogleijmcccaaT8
import Derived.Test.YtiiogleijmcccaaT11

/-
  Layer 15, the document's answer: the nodes of a derivation. Conditions: none.
-/
namespace Go.Av
open Go.Proofs
set_option maxRecDepth 100000
set_option linter.unusedSimpArgs false
set_option linter.unusedVariables false

/-- Nodes, in memory. -/
structure NdS (co : Co) (h : Heap) (n : Nat) (nodes : List Nd) (nv : AV) (av : Nat → AV) : Prop where
  row : (nodes = [] ∧ nv = .nils) ∨ ∃ b, nv = .sl b 0 nodes.length 2 ∧ b < n ∧ co b = some 3 ∧ h b = some (.cells (rowN nodes av))
  ats : ∀ (i : Nat) (x : Nd), nodes[i]? = some x → SlC eIn 1 (4 + i) co h n (av i) x.2

theorem NdS.next {co co' : Co} {h h' : Heap} {n n' : Nat} {nodes : List Nd} {nv : AV} {av : Nat → AV} (m : NdS co h n nodes nv av) (hn : n ≤ n') (hc : CoExt co co' n) (hh : ∀ x, x < n → co x ≠ none → h' x = h x) : NdS co' h' n' nodes nv av := by
  obtain ⟨m6, m7⟩ := m
  have f : ∀ c, Frm c co co' h h' n n' := fun c => ⟨hn, hc, fun x hx e => hh x hx (by rw [e]; simp)⟩
  refine ⟨?_, fun i x hx => (m7 i x hx).next (f _)⟩
  rcases m6 with m6 | ⟨b, k1, k2, k3, k4⟩
  · exact .inl m6
  · exact .inr ⟨b, k1, by omega, (hc b k2).trans k3, (hh b k2 (by rw [k3]; simp)).trans k4⟩

theorem NdS.snoc {co co' : Co} {h h' : Heap} {n n' : Nat} {nodes : List Nd} {nv : AV} {av : Nat → AV} (m : NdS co h n nodes nv av) (hn : n ≤ n') (hc : CoExt co co' n) {x : Int} {b : Nat} (hb : b < n') (hcb : co' b = some 3) (hN : h' b = some (.cells (rowN nodes av ++ [[.int .i64 x, .nils]])))
    (hh : ∀ x, x < n → co x ≠ none → co x ≠ some 3 → h' x = h x) : NdS co' h' n' (nodes ++ [(x, [])]) (.sl b 0 (nodes.length + 1) 2) (fun j => if j = nodes.length then .nils else av j) := by
  obtain ⟨m6, m7⟩ := m
  have f : ∀ c, c ≠ 3 → Frm c co co' h h' n n' := fun c h0 => ⟨hn, hc, fun x hx e => hh x hx (by rw [e]; simp) (by rw [e]; simpa using h0)⟩
  refine ⟨.inr ⟨b, by simp, hb, hcb, by rw [hN, rowN_snoc]⟩, fun j y hy => ?_⟩
  by_cases e : j = nodes.length
  · subst e
    rw [List.getElem?_append_right (Nat.le_refl _)] at hy
    simp only [Nat.sub_self, List.getElem?_cons_zero, Option.some.injEq] at hy
    subst hy
    exact .inl ⟨rfl, by simp⟩
  · have hj : j < nodes.length := by
      have := (List.getElem?_eq_some_iff.1 hy).1
      simp at this; omega
    rw [List.getElem?_append_left hj] at hy
    simp only [e, if_false]
    exact (m7 j y hy).next (f (4 + j) (by omega))

def buildR (co : Co) (h : Heap) (n : Nat) (nodes : List Nd) (i' at2 : Nat) (res : AV) (h' : Heap) (n' : Nat) : Prop :=
  ∃ nv av co', res = .tup [nv, .int .i64 i', .int .i64 at2] ∧ n ≤ n' ∧ CoExt co co' n ∧ (∀ x, x < n → co x = none → h' x = h x) ∧ NdS co' h' n' nodes nv av

/-- Places, in a block of this call's. -/
def LocI (co : Co) (h : Heap) (lo n : Nat) (v : AV) (l : List Int) : Prop := (l = [] ∧ v = .nils) ∨ ∃ b, v = .sl b 0 l.length 1 ∧ lo ≤ b ∧ b < n ∧ co b = none ∧ h b = some (.cells (l.map eIn))

theorem LocI.next {co co' : Co} {h h' : Heap} {lo n n' : Nat} {v : AV} {l : List Int} (s : LocI co h lo n v l) (hn : n ≤ n') (hc : CoExt co co' n) (hh : ∀ x, x < n → co x = none → lo ≤ x → h' x = h x) : LocI co' h' lo n' v l := by
  rcases s with s | ⟨b, s1, s2, s3, s4, s5⟩
  · exact .inl s
  · exact .inr ⟨b, s1, s2, by omega, (hc b s3).trans s4, (hh b s3 s4 s2).trans s5⟩

end Go.Av

/-
  Layer 15's statement TreeTells: the walk. Conditions: none.
-/
namespace Go.Av
open Go.Proofs
set_option maxRecDepth 100000
set_option linter.unusedSimpArgs false
set_option linter.unusedVariables false

end Go.Av
