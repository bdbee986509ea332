/-
  Layer 11, the plain law: with what symbols begin. Conditions: none.
-/
import Derived.Test.YtiiogleijmcccaaF2
namespace Go.Av
open Go.Proofs
set_option linter.unusedSimpArgs false
set_option linter.unusedVariables false

/-- With what a row of symbols may begin. -/
inductive Fst (g : Gr) (null : List Fc) : List Sy → Nat → Prop
  | term {t : Nat} {l : List Sy} : Fst g null (⟨false, (t : Int)⟩ :: l) t
  | non {p : Pr} {l : List Sy} {t : Nat} (hp : p ∈ g.prods) (h : Fst g null p.right t) : Fst g null (⟨true, p.left⟩ :: l) t
  | skip {n : Int} {l : List Sy} {t : Nat} (hn : rk null n ≠ 0) (h : Fst g null l t) : Fst g null (⟨true, n⟩ :: l) t

/-- By sets: one terminal. -/
def rowB (B : Nat → Bool) (null : List Fc) (t : Nat) : List Sy → Bool
  | [] => false
  | s :: l => if s.non then B s.n.toNat || (decide (rk null s.n ≠ 0) && rowB B null t l) else decide (s.n.toNat = t)

theorem rowW_bit {sets : List Nat} {null : List Fc} {t : Nat} : ∀ (l : List Sy) (out : Nat), (rowW sets null out l).1.testBit t = (out.testBit t || rowB (fun n => (sets.getD n 0).testBit t) null t l)
  | [], out => by simp [rowW, rowB]
  | s :: l, out => by
    rw [rowW, rowB]
    split
    · split
      · rename_i h; simp [h, Nat.testBit_or]
      · rename_i h; rw [rowW_bit l]; simp [h, Nat.testBit_or, Bool.or_assoc]
    · simp [Nat.testBit_or, Nat.testBit_two_pow]

theorem addF_bit {null : List Fc} {sets : List Nat} {p : Pr} {t : Nat} : (addF null sets p).testBit t = ((sets.getD p.left.toNat 0).testBit t || rowB (fun n => (sets.getD n 0).testBit t) null t p.right) := by
  rw [addF, Nat.testBit_or, rowW_bit]; simp

/-- All that is in the sets is there by right. -/
def SSd (g : Gr) (null : List Fc) (sets : List Nat) : Prop := ∀ n t : Nat, n < sets.length → (sets.getD n 0).testBit t = true → Fst g null [⟨true, (n : Int)⟩] t

theorem Fst.mono {g : Gr} {null : List Fc} {l : List Sy} {t : Nat} (h : Fst g null l t) (m : List Sy) : Fst g null (l ++ m) t := by
  induction h with
  | term => exact .term
  | non hp h ih => exact .non hp h
  | skip hn h ih => exact .skip hn ih

theorem Fst.one {g : Gr} {null : List Fc} {n : Int} {t : Nat} {l : List Sy} (h : Fst g null [⟨true, n⟩] t) : Fst g null (⟨true, n⟩ :: l) t := h.mono l

theorem row_sd {g : Gr} {null : List Fc} {sets : List Nat} {t : Nat} (hs : SSd g null sets) : ∀ l : List Sy, SyIn sets.length l → rowB (fun n => (sets.getD n 0).testBit t) null t l = true → Fst g null l t
  | [], _, h => by cases h
  | s :: l, hd, h => by
    obtain ⟨sn, n⟩ := s
    obtain ⟨h0, h1⟩ := hd ⟨sn, n⟩ (by simp)
    simp only at h0
    obtain ⟨ν, rfl⟩ : ∃ ν : Nat, n = ν := ⟨n.toNat, by omega⟩
    rw [rowB] at h
    cases sn with
    | true =>
      simp only [if_true, Int.toNat_natCast, Bool.or_eq_true, Bool.and_eq_true, decide_eq_true_eq] at h h1
      rcases h with h | ⟨h2, h3⟩
      · exact (hs ν t (by omega) h).one
      · exact .skip h2 (row_sd hs l (fun y hy => hd y (by simp [hy])) h3)
    | false =>
      simp only [Bool.false_eq_true, if_false, Int.toNat_natCast, decide_eq_true_eq] at h
      subst h
      exact .term

theorem SSd.set {g : Gr} {null : List Fc} {sets : List Nat} {p : Pr} (hs : SSd g null sets) (hp : p ∈ g.prods) (h0 : 0 ≤ p.left) (hd : SyIn sets.length p.right) : SSd g null (sets.set p.left.toNat (addF null sets p)) := by
  intro n t hn hb
  rw [List.length_set] at hn
  by_cases e : n = p.left.toNat
  · subst e
    rw [List.getD_eq_getElem?_getD, List.getElem?_set, if_pos rfl, if_pos hn] at hb
    simp only [Option.getD_some] at hb
    rw [addF_bit, Bool.or_eq_true] at hb
    rcases hb with hb | hb
    · exact hs _ t hn hb
    · have : ((p.left.toNat : Nat) : Int) = p.left := by omega
      rw [this]
      exact .non hp (row_sd hs p.right hd hb)
  · rw [List.getD_eq_getElem?_getD, List.getElem?_set, if_neg (Ne.symm e), ← List.getD_eq_getElem?_getD] at hb
    exact hs n t hn hb

/-- No production adds anything. -/
def SCl (g : Gr) (null : List Fc) (sets : List Nat) : Prop := ∀ p ∈ g.prods, ∀ t : Nat, rowB (fun n => (sets.getD n 0).testBit t) null t p.right = true → (sets.getD p.left.toNat 0).testBit t = true

end Go.Av
