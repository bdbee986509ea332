/-
  Texts XB, XC, XD of this work, one behind the other. Conditions: none.
-/
import Derived.Test.YtiiogleijmcccaaXA

/-
  Layer 16, the plain law: what goes on, by words. Conditions: none.
-/
namespace Go.Av
open Go.Proofs
set_option maxRecDepth 100000
set_option linter.unusedSimpArgs false
set_option linter.unusedVariables false

theorem Der.ext {g : Gr} {w t : List Int} {l : List Sy} {a c : Nat} (h : Der g w l a c) : Der g (w ++ t) l a c := by
  induction h with
  | nil h => exact .nil (by rw [List.length_append]; omega)
  | term h hl ih => exact .term (by rw [List.getElem?_append_left (List.getElem?_eq_some_iff.1 h).1]; exact h) ih
  | non hp hr hl ih1 ih2 => exact .non hp ih1 ih2

/-- Tokens of a grammar. -/
def Tk' (g : Gr) (v : List Int) : Prop := ∀ x ∈ v, 0 ≤ x ∧ x < g.terms

theorem Tk'.app {g : Gr} {v v' : List Int} (h : Tk' g v) (h' : Tk' g v') : Tk' g (v ++ v') := fun x hx => by
  rcases List.mem_append.1 hx with hx | hx
  · exact h x hx
  · exact h' x hx

/-- A word comes of symbols. -/
def Wd (g : Gr) (l : List Sy) : Prop := ∃ v, Tk' g v ∧ ∀ u t, Der g (u ++ v ++ t) l u.length (u.length + v.length)

theorem Wd.nil {g : Gr} : Wd g [] := ⟨[], (fun x hx => by cases hx), fun u t => Der.nil (by simp)⟩

theorem Wd.app {g : Gr} {l m : List Sy} (h : Wd g l) (h' : Wd g m) : Wd g (l ++ m) := by
  obtain ⟨v, h1, h2⟩ := h
  obtain ⟨v', h3, h4⟩ := h'
  refine ⟨v ++ v', h1.app h3, fun u t => ?_⟩
  have e1 := h2 u (v' ++ t)
  have e2 := h4 (u ++ v) t
  rw [List.length_append] at e2
  rw [show u ++ (v ++ v') ++ t = u ++ v ++ (v' ++ t) by simp, List.length_append, ← Nat.add_assoc]
  rw [show u ++ v ++ v' ++ t = u ++ v ++ (v' ++ t) by simp] at e2
  exact e1.append e2

/-- Words come of all. -/
def Prd (g : Gr) : Prop := ∀ n : Int, 0 ≤ n → n < g.nons → Wd g [⟨true, n⟩]

/-- Symbols of which the first ones go on. -/
def OvL (g : Gr) (w : List Int) (l : List Sy) (a : Nat) : Prop := (∃ l1 m, l = l1 ++ m ∧ l1 ≠ [] ∧ Der g w l1 a w.length) ∨ ∃ l1 n m b, l = l1 ++ ⟨true, n⟩ :: m ∧ Der g w l1 a b ∧ Ovr g w n b

theorem OvL.cons {g : Gr} {w : List Int} {s : Sy} {l : List Sy} {a b : Nat} (h : OvL g w l b) (hs : Der g w [s] a b) : OvL g w (s :: l) a := by
  rcases h with ⟨l1, m, e, h1, h2⟩ | ⟨l1, n, m, c, e, h1, h2⟩
  · exact .inl ⟨s :: l1, m, by rw [e]; rfl, by simp, hs.append h2⟩
  · exact .inr ⟨s :: l1, n, m, c, by rw [e]; rfl, hs.append h1, h2⟩

theorem OvL.prod {g : Gr} {w : List Int} {p : Pr} (hp : p ∈ g.prods) {a : Nat} (h : a = w.length ∨ OvL g w p.right a) : Ovr g w p.left a := by
  rcases h with h | ⟨l1, m, e, h1, h2⟩ | ⟨l1, n, m, c, e, h1, h2⟩
  · exact .eps hp h
  · exact .all hp e h1 h2
  · exact .non hp e h1 h2

end Go.Av

/-
  Layer 16: over which a word goes on. Conditions: none.
-/
namespace Go.Av
open Go.Proofs
set_option maxRecDepth 100000
set_option linter.unusedSimpArgs false
set_option linter.unusedVariables false

end Go.Av

/-
  Layer 16: over which a word goes on, walked. Conditions: none.
-/
namespace Go.Av
open Go.Proofs
set_option maxRecDepth 100000
set_option linter.unusedSimpArgs false
set_option linter.unusedVariables false

end Go.Av
