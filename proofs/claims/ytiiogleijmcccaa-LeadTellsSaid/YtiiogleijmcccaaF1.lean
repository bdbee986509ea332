/-
  Layer 11: sets as numbers; the set of symbols by sets of nonterminals (the package). Conditions: none.
-/
import Derived.Test.YtiiogleijmcccaaBB
import Derived.Test.YtiiogleijmcccaaCC
namespace Go.Av
open Go.Proofs
set_option maxRecDepth 100000
set_option linter.unusedSimpArgs false
set_option linter.unusedVariables false

def eU3 (n : Nat) : List AV := [.int .u32 n]
attribute [go_sem] eU3

theorem wrapu32 {x : Int} (h1 : 0 ≤ x) (h2 : x < 4294967296) : IntKind.wrap .u32 x = x := by
  unfold IntKind.wrap
  simp only [IntKind.bits, IntKind.signed]
  simp
  omega

theorem wrapN {y : Nat} (h : y < 2 ^ 32) : IntKind.wrap .u32 (y : Int) = y := wrapu32 (by omega) (by omega)

theorem ofIntN (x : Nat) : BitVec.ofInt 32 (x : Int) = BitVec.ofNat 32 x := by
  apply BitVec.eq_of_toNat_eq
  simp [BitVec.toNat_ofInt]

theorem or32 {a b : Nat} (ha : a < 2 ^ 32) (hb : b < 2 ^ 32) : bitsOf .or .u32 (a : Int) (b : Int) = some ((a ||| b : Nat) : Int) := by
  show some (IntKind.wrap .u32 ((BitVec.ofInt 32 (a : Int) ||| BitVec.ofInt 32 (b : Int)).toNat : Int)) = _
  rw [ofIntN, ofIntN, BitVec.toNat_or, BitVec.toNat_ofNat, BitVec.toNat_ofNat, Nat.mod_eq_of_lt ha, Nat.mod_eq_of_lt hb, wrapN (Nat.or_lt_two_pow ha hb)]

theorem shl32 {t : Nat} (h : t < 32) : IntKind.wrap .u32 (1 * 2 ^ (min t 32)) = ((2 ^ t : Nat) : Int) := by
  have hp : 2 ^ t < 2 ^ 32 := Nat.pow_lt_pow_right (by decide) h
  have e : min t 32 = t := by omega
  rw [e, Int.one_mul]
  have e2 : (2 : Int) ^ t = ((2 ^ t : Nat) : Int) := by simp
  rw [e2, wrapN hp]

/-- The set of symbols, and whether all may be nothing. -/
def rowW (sets : List Nat) (null : List Fc) : Nat → List Sy → Nat × Bool
  | out, [] => (out, true)
  | out, s :: l => if s.non then (if rk null s.n = 0 then (out ||| sets.getD s.n.toNat 0, false) else rowW sets null (out ||| sets.getD s.n.toNat 0) l) else (out ||| 2 ^ s.n.toNat, false)

/-- Symbols that have places. -/
def SyIn (M : Nat) (l : List Sy) : Prop := ∀ s ∈ l, 0 ≤ s.n ∧ if s.non then s.n < M else s.n < 32

def Lt32 (sets : List Nat) : Prop := ∀ s ∈ sets, s < 2 ^ 32

theorem getD_lt {sets : List Nat} (h : Lt32 sets) (n : Nat) : sets.getD n 0 < 2 ^ 32 := by
  rw [List.getD_eq_getElem?_getD]
  cases e : sets[n]? with
  | none => decide
  | some x => exact h x (List.mem_of_getElem? e)

end Go.Av

