/-
  Layer 11, the plain law: just so much as must be is in the sets. Conditions: none.
-/
import Derived.Test.YtiiogleijmcccaaC11b
namespace Go.Av
open Go.Proofs
set_option linter.unusedSimpArgs false
set_option linter.unusedVariables false

def orF (g : Gr) (acc : List Nat) (p : Pr) : List Nat := acc.set p.left.toNat (acc.getD p.left.toNat 0 ||| (ofL g p.right).1)

theorem orF_len {g : Gr} {acc : List Nat} {p : Pr} : (orF g acc p).length = acc.length := by simp [orF]

theorem foldO_len {g : Gr} : ∀ (ps : List Pr) (acc : List Nat), (ps.foldl (orF g) acc).length = acc.length
  | [], acc => rfl
  | p :: ps, acc => by rw [List.foldl_cons, foldO_len ps, orF_len]

theorem right_there {g : Gr} (hr : right g = true) {p : Pr} (hp : p ∈ g.prods) : p.right.all (there g) = true := by
  simp only [right, Bool.and_eq_true, List.all_eq_true] at hr
  have := hr.2 p hp
  simp only [fitsP, Bool.and_eq_true, Bool.not_eq_true', List.any_eq_false] at this
  rw [List.all_eq_true]
  intro s hs
  have h2 := this.2 s hs
  simpa using h2

theorem ofL_right {g : Gr} (hr : right g = true) {p : Pr} (hp : p ∈ g.prods) : ofL g p.right = rowW (firstL g) (ranksL g false) 0 p.right := by
  simp [ofL, hr, right_there hr hp]

theorem ofL_lt {g : Gr} (l : List Sy) : (ofL g l).1 < 2 ^ 32 := by
  unfold ofL
  split
  · rename_i h
    rw [Bool.and_eq_true] at h
    obtain ⟨f1, f2, _⟩ := first_fin h.1
    exact rowW_lt f2 l 0 (by decide) (by rw [f1]; exact there_syin h.1 (List.all_eq_true.1 h.2))
  · decide

theorem foldO_bit {g : Gr} (hr : right g = true) {x t : Nat} : ∀ (ps : List Pr) (acc : List Nat), (∀ p ∈ ps, p ∈ g.prods) → x < acc.length →
    ((ps.foldl (orF g) acc).getD x 0).testBit t = ((acc.getD x 0).testBit t || ps.any fun p => decide (p.left.toNat = x) && rowB (fun n => ((firstL g).getD n 0).testBit t) (ranksL g false) t p.right)
  | [], acc, _, _ => by simp
  | p :: ps, acc, h, hx => by
    rw [List.foldl_cons, foldO_bit hr ps _ (fun q hq => h q (by simp [hq])) (by rw [orF_len]; exact hx), List.any_cons]
    by_cases e : p.left.toNat = x
    · have : (orF g acc p).getD x 0 = (acc.getD x 0 ||| (ofL g p.right).1) := by
        unfold orF
        rw [List.getD_eq_getElem?_getD, List.getElem?_set, if_pos e, if_pos (by omega), e]; rfl
      rw [this, Nat.testBit_or, ofL_right hr (h p (by simp)), rowW_bit]
      simp [e, Bool.or_assoc]
    · have : (orF g acc p).getD x 0 = acc.getD x 0 := by
        unfold orF
        rw [List.getD_eq_getElem?_getD, List.getElem?_set, if_neg e, ← List.getD_eq_getElem?_getD]
      rw [this]
      simp [e]

theorem fst_inv {g : Gr} {null : List Fc} {l : List Sy} {t : Nat} (h : Fst g null l t) : ∀ n : Int, l = [⟨true, n⟩] → ∃ p ∈ g.prods, p.left = n ∧ Fst g null p.right t := by
  induction h with
  | term => intro n e; cases e
  | @non p l t hp h ih =>
    intro n e
    simp only [List.cons.injEq, Sy.mk.injEq] at e
    exact ⟨p, hp, e.1.2, h⟩
  | skip hn h ih =>
    intro n e
    simp only [List.cons.injEq] at e
    rw [e.2] at h
    cases h

theorem all_first {g : Gr} (hr : right g = true) : g.prods.foldl (orF g) (List.replicate g.nons.toNat 0) = firstL g := by
  obtain ⟨f1, f2, f3, f4⟩ := first_fin hr
  obtain ⟨_, _, _, _, h5⟩ := right_in hr
  have hl : (g.prods.foldl (orF g) (List.replicate g.nons.toNat 0)).length = g.nons.toNat := by rw [foldO_len, List.length_replicate]
  refine List.ext_getElem (by rw [hl, f1]) fun x h1 h2 => ?_
  have e1 : (g.prods.foldl (orF g) (List.replicate g.nons.toNat 0))[x] = (g.prods.foldl (orF g) (List.replicate g.nons.toNat 0)).getD x 0 := by simp [h1]
  have e2 : (firstL g)[x] = (firstL g).getD x 0 := by simp [h2]
  rw [e1, e2]
  refine Nat.eq_of_testBit_eq fun t => ?_
  rw [foldO_bit hr g.prods _ (fun p hp => hp) (by rw [List.length_replicate]; omega), getD_zero, Nat.zero_testBit, Bool.false_or, Bool.eq_iff_iff]
  simp only [List.any_eq_true, Bool.and_eq_true, decide_eq_true_eq]
  constructor
  · rintro ⟨p, hp, rfl, hb⟩
    exact f4 p hp t hb
  · intro hb
    obtain ⟨p, hp, e, h⟩ := fst_inv ((sets_iff f3 f4 h2).1 hb) _ rfl
    exact ⟨p, hp, by omega, fst_row f4 h⟩

theorem of_one {g : Gr} (hr : right g = true) {k : Nat} (hk : k < g.nons.toNat) : (ofL g [⟨true, (k : Int)⟩]).1 = (firstL g).getD k 0 := by
  have : [(⟨true, (k : Int)⟩ : Sy)].all (there g) = true := by
    simp [there]; omega
  simp only [ofL, hr, this, Bool.and_self, if_true, rowW, Int.toNat_natCast, Nat.zero_or]
  split <;> rfl

theorem fst_term {g : Gr} (hr : right g = true) {null : List Fc} {l : List Sy} {t : Nat} (h : Fst g null l t) (hl : ∀ s ∈ l, s.non = false → s.n < g.terms) : (t : Int) < g.terms := by
  obtain ⟨_, _, _, _, h5⟩ := right_in hr
  induction h with
  | @term t l => exact hl ⟨false, (t : Int)⟩ (by simp) rfl
  | @non p l t hp h ih =>
    refine ih fun s hs hn => ?_
    have := ((h5 p hp).2.2 s hs).2
    rw [if_neg (by simp [hn])] at this
    exact this
  | skip hn h ih => exact ih fun s hs hn => hl s (by simp [hs]) hn

theorem first_terms {g : Gr} (hr : right g = true) {k τ : Nat} (hk : k < g.nons.toNat) (hτ : g.terms = τ) : (firstL g).getD k 0 / 2 ^ τ = 0 := by
  obtain ⟨f1, f2, f3, f4⟩ := first_fin hr
  refine Nat.div_eq_of_lt (Nat.lt_pow_two_of_testBit _ fun t ht => ?_)
  refine Bool.eq_false_iff.2 fun hb => ?_
  have := fst_term hr ((sets_iff f3 f4 (by omega)).1 hb) (fun s hs hn => by simp at hs; subst hs; cases hn)
  omega

end Go.Av
