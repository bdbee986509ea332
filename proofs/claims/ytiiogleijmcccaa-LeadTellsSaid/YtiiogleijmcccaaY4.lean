/-
  Layer 16, the document's answer: its rows, in plain terms. Conditions: none.
-/
import Derived.Test.YtiiogleijmcccaaY2
namespace Go.Av
open Go.Proofs
set_option maxRecDepth 100000
set_option linter.unusedSimpArgs false
set_option linter.unusedVariables false

/-- Bits, one behind the other. -/
def bitsN (F : Nat → Bool) : Nat → Nat
  | 0 => 0
  | k + 1 => if F k = true then bitsN F k + 2 ^ k else bitsN F k

noncomputable def endW (g : Gr) (w : List Int) (a i : Nat) (c : Nat) : Bool := spanF g w i a (a + c)

noncomputable def ovrW (g : Gr) (w : List Int) (a : Nat) (n : Nat) : Bool := spanF (wildG g) w (g.nons.toNat + n) a w.length

/-- The row that the document tells. -/
noncomputable def rwW (g : Gr) (w : List Int) (a : Nat) : Nat → Nat := fun i => if i = 24 then bitsN (ovrW g w a) g.nons.toNat else if i < g.nons.toNat then bitsN (endW g w a i) (w.length + 1 - a) else 0

/-- All of them. -/
noncomputable def rwsW (g : Gr) (w : List Int) : List (Nat → Nat) := (List.range (w.length + 1)).map (rwW g w)

theorem wild_small {g : Gr} (hr : right g = true) : (wildG g).Small := by
  obtain ⟨_, _, _, hp60, h5⟩ := right_in hr
  have hl : ∀ l : List Pr, (∀ p ∈ l, p.right.length ≤ 8) → (l.flatMap (wildP g.nons)).length ≤ 9 * l.length := by
    intro l
    induction l with
    | nil => intro _; simp
    | cons p l ih =>
      intro h
      have h1 := h p (by simp)
      have h2 := ih fun q hq => h q (by simp [hq])
      rw [List.flatMap_cons, List.length_append, List.length_cons]
      have : (wildP g.nons p).length = p.right.length + 1 := by simp [wildP]
      omega
  have h6 := hl g.prods fun p hp => (h5 p hp).2.1
  refine ⟨?_, fun p hp => ?_⟩
  · show (g.prods ++ g.prods.flatMap (wildP g.nons)).length < _
    rw [List.length_append]
    omega
  · rcases wild_mem hp with hp | ⟨q, hq, _, e | ⟨k, s, hs, e⟩⟩
    · have := (h5 p hp).2.1
      omega
    · rw [e]; simp
    · rw [e, List.length_append, List.length_take, List.length_singleton]
      have := (h5 q hq).2.1
      omega

theorem wild_dom {g : Gr} (hr : right g = true) : (wildG g).Dom := by
  obtain ⟨⟨hn1, hn2⟩, _, _, hp60, h5⟩ := right_in hr
  show 1 ≤ 2 * g.nons ∧ 2 * g.nons < 2 ^ 30 ∧ ∀ p ∈ (wildG g).prods, ((0 ≤ p.left ∧ p.left < 2 * g.nons) ∧ p.right.length < 2 ^ 30) ∧ ∀ s ∈ p.right, s.non = true → 0 ≤ s.n ∧ s.n < 2 * g.nons
  refine ⟨by omega, by omega, fun p hp => ?_⟩
  rcases wild_mem hp with hp | ⟨q, hq, e1, e⟩
  · have h := h5 p hp
    have ho := own_right hr hp
    refine ⟨⟨by omega, by omega⟩, fun s hs hn => ?_⟩
    have := ho s hs hn
    omega
  · have h := h5 q hq
    have ho := own_right hr hq
    refine ⟨⟨by omega, ?_⟩, fun s hs hn => ?_⟩
    · rcases e with e | ⟨k, s, hs, e⟩
      · rw [e]; simp
      · rw [e, List.length_append, List.length_take, List.length_singleton]
        omega
    · rcases e with e | ⟨k, x, hx, e⟩
      · rw [e] at hs; cases hs
      · rw [e] at hs
        rcases List.mem_append.1 hs with hs | hs
        · have := ho s (List.take_subset k _ hs) hn
          omega
        · rw [List.mem_singleton.1 hs] at hn ⊢
          have hxn : x.non = true := by
            unfold bump at hn
            split at hn
            · assumption
            · exact hn
          have := ho x (List.mem_of_getElem? hx) hxn
          rw [bump, if_pos hxn]
          show 0 ≤ x.n + g.nons ∧ x.n + g.nons < _
          omega

end Go.Av

