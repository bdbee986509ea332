/-
  Layer 11, the plain law: with what words begin. Conditions: none.
-/
import Derived.Test.YtiiogleijmcccaaF6
import Derived.Test.YtiiogleijmcccaaSS
namespace Go.Av
open Go.Proofs
set_option linter.unusedSimpArgs false
set_option linter.unusedVariables false

theorem shr32 {x t : Nat} (h : t < 32) : (x : Int).fdiv (2 ^ (min t 32)) = ((x / 2 ^ t : Nat) : Int) := by
  rw [Nat.min_eq_left (by omega)]
  have e : (2 : Int) ^ t = ((2 ^ t : Nat) : Int) := by simp
  rw [e, Int.fdiv_eq_ediv_of_nonneg _ (Int.natCast_nonneg _)]
  rfl

theorem and32 {x : Nat} (hx : x < 2 ^ 32) : bitsOf .and .u32 (x : Int) 1 = some ((x % 2 : Nat) : Int) := by
  show some (IntKind.wrap .u32 ((BitVec.ofInt 32 (x : Int) &&& BitVec.ofInt 32 ((1 : Nat) : Int)).toNat : Int)) = _
  rw [ofIntN, ofIntN, BitVec.toNat_and, BitVec.toNat_ofNat, BitVec.toNat_ofNat, Nat.mod_eq_of_lt hx, Nat.mod_eq_of_lt (by decide : 1 < 2 ^ 32), Nat.and_one_is_mod, wrapN (by omega)]

theorem bit_zero {x t : Nat} : decide (((x / 2 ^ t % 2 : Nat) : Int) = 0) = !x.testBit t := by
  rw [Nat.testBit_eq_decide_div_mod_eq]
  have := Nat.mod_lt (x / 2 ^ t) (show 0 < 2 by decide)
  by_cases h : x / 2 ^ t % 2 = 1
  · simp [h]
  · have h0 : x / 2 ^ t % 2 = 0 := by omega
    simp [h0]

end Go.Av
