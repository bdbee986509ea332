/-
  Layer 11, the plain law: with what words begin. Conditions: none.
-/
import Derived.Test.YtiiogleijmcccaaF6
import Derived.Test.YtiiogleijmcccaaSS
namespace Go.Av
open Go.Proofs
set_option linter.unusedSimpArgs false
set_option linter.unusedVariables false

theorem shr32 {x t : Nat} (h : t < 32) : (x : Int).fdiv (2 ^ (min t 32)) = ((x / 2 ^ t : Nat) : Int) := by
  rw [Nat.min_eq_left (by omega)]
  have e : (2 : Int) ^ t = ((2 ^ t : Nat) : Int) := by simp
  rw [e, Int.fdiv_eq_ediv_of_nonneg _ (Int.natCast_nonneg _)]
  rfl

theorem and32 {x : Nat} (hx : x < 2 ^ 32) : bitsOf .and .u32 (x : Int) 1 = some ((x % 2 : Nat) : Int) := by
  show some (IntKind.wrap .u32 ((BitVec.ofInt 32 (x : Int) &&& BitVec.ofInt 32 ((1 : Nat) : Int)).toNat : Int)) = _
  rw [ofIntN, ofIntN, BitVec.toNat_and, BitVec.toNat_ofNat, BitVec.toNat_ofNat, Nat.mod_eq_of_lt hx, Nat.mod_eq_of_lt (by decide : 1 < 2 ^ 32), Nat.and_one_is_mod, wrapN (by omega)]

theorem bit_zero {x t : Nat} : decide (((x / 2 ^ t % 2 : Nat) : Int) = 0) = !x.testBit t := by
  rw [Nat.testBit_eq_decide_div_mod_eq]
  have := Nat.mod_lt (x / 2 ^ t) (show 0 < 2 by decide)
  by_cases h : x / 2 ^ t % 2 = 1
  · simp [h]
  · have h0 : x / 2 ^ t % 2 = 0 := by omega
    simp [h0]

theorem der_fst {g : Gr} (hr : right g = true) {w : List Int} {l : List Sy} {a c : Nat} (h : Der g w l a c) {t : Nat} (ht : w[a]? = some (t : Int)) (hac : a < c) : Fst g (ranksL g false) l t := by
  induction h with
  | nil h => omega
  | @term x l a c h hl ih =>
    rw [h] at ht
    cases ht
    exact .term
  | @non p l a b c hp hl hm ih1 ih2 =>
    have h1 := hl.le
    by_cases hab : a < b
    · exact .non hp (ih1 ht hab)
    · have e : a = b := by omega
      subst e
      have := der_rank hr (terms := false) (Der.non hp hl (.nil h1.2)) (.inr rfl) ⟨true, p.left⟩ (by simp)
      simp only [if_true] at this
      exact .skip (by omega) (ih2 ht hac)

theorem first_means {g : Gr} (hr : right g = true) {w : List Int} {k e t : Nat} (hk : k < g.nons.toNat) (h : spanF g w k 0 e = true) (he : 1 ≤ e) (ht : w[0]? = some (t : Int)) : ((firstL g).getD k 0).testBit t = true := by
  obtain ⟨h1, _, h3, h4⟩ := first_fin hr
  rw [sets_iff h3 h4 (by omega)]
  exact der_fst hr (spanF_iff.1 h) ht (by omega)

end Go.Av
