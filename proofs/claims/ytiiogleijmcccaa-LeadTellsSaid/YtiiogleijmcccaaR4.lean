/-
  Layer 10: do facts show who is reached? Conditions: none.
-/
import Derived.Test.YtiiogleijmcccaaR3
namespace Go.Av
open Go.Proofs
set_option maxRecDepth 100000
set_option linter.unusedSimpArgs false
set_option linter.unusedVariables false

def allIdx (q : Nat → Fc → Bool) (l : List Fc) : Bool := l.zipIdx.all fun x => q x.2 x.1

theorem all_true {q : Nat → Fc → Bool} {l : List Fc} (h : ∀ j f, l[j]? = some f → q j f = true) : allIdx q l = true := by
  simp only [allIdx, List.all_eq_true]
  intro x hx
  obtain ⟨f, j⟩ := x
  exact h j f (List.mk_mem_zipIdx_iff_getElem?.1 hx)

def showR (g : Gr) (l : List Fc) (x : Nat) (f : Fc) : Bool :=
  decide ((x : Int) = g.start) || (decide (f.1 = 0) && decide (f.2 = 0)) || (decide (1 ≤ f.1) && decide (0 ≤ f.2) && match g.prods[f.2.toNat]? with
    | some p => decide (1 ≤ rk l p.left) && decide (rk l p.left < f.1) && stands p x
    | none => false)

def reachShows (g : Gr) (l : List Fc) : Bool := right g && decide ((l.length : Int) = g.nons) && decide (l.getD g.start.toNat (0, 0) = (1, 0)) && allIdx (showR g l) l

def Upto (q : Nat → Fc → Bool) (l : List Fc) (k : Nat) : Prop := ∀ j f, j < k → l[j]? = some f → q j f = true

theorem Upto.all {q : Nat → Fc → Bool} {l : List Fc} (h : Upto q l l.length) : allIdx q l = true := all_true fun j f hj => h j f (List.getElem?_eq_some_iff.1 hj).1 hj

theorem Upto.zero {q : Nat → Fc → Bool} {l : List Fc} : Upto q l 0 := fun j f hj => by omega

end Go.Av

