/-
  Layer 11, package first: the sets of nonterminals. Conditions: none.
-/
import Derived.Test.YtiiogleijmcccaaF1
import Derived.Test.YtiiogleijmcccaaR1
namespace Go.Av
open Go.Proofs
set_option maxRecDepth 100000
set_option linter.unusedSimpArgs false
set_option linter.unusedVariables false

def again (l : Nat) (K : Fr → Heap → Nat → Prop) (Q : AEx → Fr → Heap → Nat → Prop) : AEx → Fr → Heap → Nat → Prop
  | .goto l', t, h, n => if l' = l then K t h n else False
  | e, t, h, n => Q e t h n

attribute [go_sem] again

def addF (null : List Fc) (sets : List Nat) (p : Pr) : Nat := sets.getD p.left.toNat 0 ||| (rowW sets null 0 p.right).1

def passF (null : List Fc) (sets : List Nat) : List Pr → Option (List Nat)
  | [] => none
  | p :: ps => if addF null sets p = sets.getD p.left.toNat 0 then passF null sets ps else some (sets.set p.left.toNat (addF null sets p))

def fixF (g : Gr) (null : List Fc) : Nat → List Nat → List Nat
  | 0, s => s
  | f + 1, s => match passF null s g.prods with
    | some s' => fixF g null f s'
    | none => s

def firstL (g : Gr) : List Nat := if right g then fixF g (ranksL g false) (32 * g.nons.toNat + 1) (List.replicate g.nons.toNat 0) else []

theorem rowW_lt {sets : List Nat} {null : List Fc} (hs : Lt32 sets) : ∀ (l : List Sy) (out : Nat), out < 2 ^ 32 → SyIn sets.length l → (rowW sets null out l).1 < 2 ^ 32
  | [], out, h, _ => h
  | s :: l, out, h, hd => by
    rw [rowW]
    have hlt := Nat.or_lt_two_pow h (getD_lt hs s.n.toNat)
    split
    · split
      · exact hlt
      · exact rowW_lt hs l _ hlt fun y hy => hd y (by simp [hy])
    · rename_i hn
      have := hd s (by simp)
      rw [if_neg hn] at this
      exact Nat.or_lt_two_pow h (Nat.pow_lt_pow_right (by decide) (by omega))

theorem Lt32.set {sets : List Nat} {a v : Nat} (h : Lt32 sets) (hv : v < 2 ^ 32) : Lt32 (sets.set a v) := by
  intro s hs
  rcases List.mem_or_eq_of_mem_set hs with h' | rfl
  · exact h s h'
  · exact hv

def miss (x : Nat) : Nat := (List.range 32).countP fun t => !x.testBit t

def missing (sets : List Nat) : Nat := (sets.map miss).sum

/-- A grammar, as the sets want it. -/
def Gr.FIn (g : Gr) (M : Nat) : Prop := ∀ p ∈ g.prods, (0 ≤ p.left ∧ p.left < M) ∧ SyIn M p.right

end Go.Av

