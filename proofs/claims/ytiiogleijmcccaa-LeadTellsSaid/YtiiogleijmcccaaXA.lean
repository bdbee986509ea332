/-
  Texts X9, XA of this work, one behind the other. Conditions: none.
-/
import Derived.Test.YtiiogleijmcccaaX8

/-
  Layer 16: the calls whose answers the document fixes. Conditions: none.
-/
namespace Go.Av
open Go.Proofs
set_option maxRecDepth 100000
set_option linter.unusedSimpArgs false
set_option linter.unusedVariables false

def gX : Gr := ⟨2, 1, 0, [⟨0, [⟨false, 0⟩, ⟨true, 0⟩]⟩, ⟨0, []⟩]⟩

def rowE (a o : Nat) : Nat → Nat := fun i => if i = 24 then o else if i = 0 then a else 0

def chkA (w : List Int) (B : List (Nat → Nat)) (A O : List Nat) : Bool := A.all fun a => O.all fun o => gX.prods.all fun p => A.contains (a ||| (comesF w (rowE a o :: B) p).1) && O.contains (if (comesF w (rowE a o :: B) p).2 = true then o ||| 1 else o)

def chkB (w : List Int) (B : List (Nat → Nat)) (A O : List Nat) (a0 o0 : Nat) : Bool := A.all fun a => O.all fun o => !(gX.prods.all fun p => (a ||| (comesF w (rowE a o :: B) p).1) == a && (if (comesF w (rowE a o :: B) p).2 = true then o ||| 1 else o) == o) || (a == a0 && o == o0)

end Go.Av

/-
  Layer 16: a row hangs on nothing but its word. Conditions: none.
-/
namespace Go.Av
open Go.Proofs
set_option maxRecDepth 100000
set_option linter.unusedSimpArgs false
set_option linter.unusedVariables false

theorem RowsC.drop {g : Gr} {w : List Int} {l : List (Nat → Nat)} (h : RowsC g w l) {a : Nat} (ha : a ≤ w.length) : RowsC g (w.drop a) (l.drop a) := by
  refine ⟨by rw [List.length_drop, List.length_drop, h.1]; omega, fun b hb => ?_⟩
  rw [List.length_drop] at hb
  have := h.2 (a + b) (by omega)
  rw [List.drop_drop]
  have e : rowAt (l.drop a) b = rowAt l (a + b) := by
    unfold rowAt
    rw [List.getD_eq_getElem?_getD, List.getD_eq_getElem?_getD, List.getElem?_drop]
  rw [e]; exact this

theorem RowsC.behind {g : Gr} {w : List Int} {l : List (Nat → Nat)} (h : RowsC g w l) {a : Nat} (ha : a ≤ w.length) : RcB g (w.drop a) (l.drop (a + 1)) := by
  refine ⟨by rw [List.length_drop, List.length_drop, h.1]; omega, fun b hb => ?_⟩
  rw [List.length_drop] at hb
  have := h.2 (a + 1 + b) (by rw [h.1]; omega)
  rw [List.drop_drop, show a + (b + 1) = a + 1 + b by omega]
  have e : rowAt (l.drop (a + 1)) b = rowAt l (a + 1 + b) := by
    unfold rowAt
    rw [List.getD_eq_getElem?_getD, List.getD_eq_getElem?_getD, List.getElem?_drop]
  rw [e]; exact this

end Go.Av
