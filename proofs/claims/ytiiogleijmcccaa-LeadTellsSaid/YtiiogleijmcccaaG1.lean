/-
  Layer 12, package follow: what stands behind nonterminals. Conditions: none.
-/
import Derived.Test.YtiiogleijmcccaaC12
import Derived.Test.YtiiogleijmcccaaF6
import Derived.Test.YtiiogleijmcccaaSS
namespace Go.Av
open Go.Proofs
set_option maxRecDepth 100000
set_option linter.unusedSimpArgs false
set_option linter.unusedVariables false

/-- A slice of one's own: none, or a block. -/
def SlL {α : Type} (e : α → List AV) (sz : Nat) (h : Heap) (lo n : Nat) (v : AV) (l : List α) : Prop := (l = [] ∧ v = .nils) ∨ ∃ b, v = .sl b 0 l.length sz ∧ lo ≤ b ∧ b < n ∧ h b = some (.cells (l.map e))

theorem SlL.next {α : Type} {e : α → List AV} {sz : Nat} {h h' : Heap} {lo lo' n n' : Nat} {v v' : AV} {l : List α} (c : SlL e sz h lo n v l) (hv : v' = v) (hh : ∀ x, lo ≤ x → x < n → h' x = h x) (hn : n ≤ n') (hl : lo' ≤ lo) : SlL e sz h' lo' n' v' l := by
  subst hv
  rcases c with c | ⟨b, c1, c2, c3, c4⟩
  · exact .inl c
  · exact .inr ⟨b, c1, by omega, by omega, by rw [hh b c2 c3]; exact c4⟩

theorem SlL.frz {α : Type} {e : α → List AV} {sz : Nat} {fr : Bool} {h : Heap} {lo n d : Nat} {v : AV} {l : List α} (c : SlL e sz h lo n v l) (he : ∀ x ∈ l, rfs fr d h (e x) = some (e x)) : rf fr (d + 2) h v = some (.ro (l.map e)) := by
  rcases c with ⟨rfl, rfl⟩ | ⟨b, rfl, _, _, c⟩
  · simp [rf]
  · exact rf_sla c (by simp) (rfe_map he)

theorem cut_map {α : Type} {e : α → List AV} {l : List α} {k : Nat} : ((l.map e).drop k).take (l.length - k) = (l.drop k).map e := by
  rw [← List.map_drop, List.take_of_length_le (by simp)]

theorem len_map {α : Type} {e : α → List AV} {sz : Nat} (he : ∀ x, (e x).length = sz) {l : List α} : (∀ y ∈ l.map e, y.length = sz) = True := by
  simp [he]

end Go.Av

