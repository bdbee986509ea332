/-
  Layer 16: a row is right; a word's rows. Conditions: none.
-/
import Derived.Test.YtiiogleijmcccaaX5
namespace Go.Av
open Go.Proofs
set_option maxRecDepth 100000
set_option linter.unusedSimpArgs false
set_option linter.unusedVariables false

theorem comesL_app {w : List Int} {rows : List (Nat → Nat)} {m : List Sy} : ∀ (l : List Sy) (k : Nat) (mo : Bool), comesL w rows (l ++ m) k mo = comesL w rows m (comesL w rows l k mo).1 (comesL w rows l k mo).2
  | [], k, mo => rfl
  | s :: l, k, mo => by
    rw [List.cons_append, comesL, comesL]
    exact comesL_app l _ _

theorem comesL_more {w : List Int} {rows : List (Nat → Nat)} : ∀ (l : List Sy) (k : Nat), (comesL w rows l k true).2 = true
  | [], k => rfl
  | s :: l, k => by
    rw [comesL]
    exact comesL_more l _

theorem comesL_end {w : List Int} {rows : List (Nat → Nat)} : ∀ (l : List Sy) (k : Nat) (mo : Bool), l ≠ [] → (comesL w rows l k mo).1.testBit w.length = true → (comesL w rows l k mo).2 = true
  | [], k, mo, h, _ => absurd rfl h
  | [s], k, mo, _, hb => by
    rw [comesL, comesL] at hb ⊢
    simp only at hb ⊢
    rw [hb, Bool.or_true]
  | s :: s' :: l, k, mo, _, hb => by
    rw [comesL] at hb ⊢
    exact comesL_end (s' :: l) _ _ (by simp) hb

theorem right_syB {g : Gr} (hr : right g = true) {p : Pr} (hp : p ∈ g.prods) : SyB p.right := by
  obtain ⟨⟨hn1, hn2⟩, _, _, hp60, h5⟩ := right_in hr
  intro s hs hn
  have := (h5 p hp).2.2 s hs
  rw [if_pos hn] at this
  omega

theorem right_left {g : Gr} (hr : right g = true) {p : Pr} (hp : p ∈ g.prods) : 0 ≤ p.left ∧ p.left < 24 := by
  obtain ⟨⟨hn1, hn2⟩, _, _, hp60, h5⟩ := right_in hr
  have := (h5 p hp).1
  omega

theorem closed_bits {w : List Int} {f : Nat → Nat} {B : List (Nat → Nat)} {p : Pr} (hl : 0 ≤ p.left ∧ p.left < 24) (h : putR f p.left.toNat (comesF w (f :: B) p) = f) :
    (∀ c, (comesF w (f :: B) p).1.testBit c = true → (f p.left.toNat).testBit c = true) ∧ ((comesF w (f :: B) p).2 = true → (f 24).testBit p.left.toNat = true) := by
  refine ⟨fun c hc => ?_, fun hm => ?_⟩
  · have h1 := congrFun h p.left.toNat
    unfold putR at h1
    rw [if_neg (by omega), if_pos rfl] at h1
    rw [← h1, Nat.testBit_or, hc, Bool.or_true]
  · have h1 := congrFun h 24
    unfold putR at h1
    rw [if_pos rfl, if_pos hm] at h1
    rw [← h1, Nat.testBit_or, Nat.testBit_two_pow]
    simp

section
variable {g : Gr} (hr : right g = true) {w : List Int} (hw : w.length ≤ 30) {f : Nat → Nat} {B : List (Nat → Nat)} (hB : RcB g w B) (hcl : ∀ p, p ∈ g.prods → putR f p.left.toNat (comesF w (f :: B) p) = f)
include hr hw hB hcl

theorem comp_der {l : List Sy} {a c : Nat} (h : Der g w l a c) : ∀ (k : Nat) (mo : Bool), k.testBit a = true → (comesL w (f :: B) l k mo).1.testBit c = true := by
  have hlen : (f :: B).length = w.length + 1 := by rw [List.length_cons, hB.1]
  induction h with
  | nil h => intro k mo hk; exact hk
  | @term t l a c h hl ih =>
    intro k mo hk
    rw [comesL]
    refine ih _ _ ?_
    have hal := (List.getElem?_eq_some_iff.1 h).1
    exact (stepN_bit (show a + 1 < 32 by omega) _).2 ⟨a, by omega, hk, .inr ⟨rfl, h, rfl⟩⟩
  | @non p l a b c hp hrr hl ih1 ih2 =>
    intro k mo hk
    rw [comesL]
    refine ih2 _ _ ?_
    obtain ⟨q1, q2⟩ := right_left hr hp
    have hab := hrr.le
    refine (stepN_bit (show b < 32 by omega) _).2 ⟨a, by omega, hk, .inl ⟨rfl, hab.1, ?_⟩⟩
    show (rowAt (f :: B) a p.left.toNat).testBit (b - a) = true
    cases a with
    | zero =>
      rw [row_zero]
      exact (closed_bits (right_left hr hp) (hcl p hp)).1 _ (ih1 1 _ rfl)
    | succ a =>
      refine (rows_comp hB (by omega)).1 p.left.toNat (by omega) b ?_
      rw [show ((p.left.toNat : Nat) : Int) = p.left by omega]
      exact .non hp hrr (.nil hab.2)

theorem comp_ovr {n : Int} {a : Nat} (h : Ovr g w n a) : (rowAt (f :: B) a 24).testBit n.toNat = true := by
  have hlen : (f :: B).length = w.length + 1 := by rw [List.length_cons, hB.1]
  have late : ∀ {n : Int} {a : Nat}, Ovr g w n (a + 1) → (rowAt (f :: B) (a + 1) 24).testBit n.toNat = true := fun {n a} h => by
    obtain ⟨p, hp, rfl⟩ := h.prod
    obtain ⟨q1, q2⟩ := right_left hr hp
    refine (rows_comp hB (by have := h.le; omega)).2 p.left.toNat ?_
    rw [show ((p.left.toNat : Nat) : Int) = p.left by omega]
    exact h
  induction h with
  | @eps p a hp ha =>
    cases a with
    | succ a => exact late (.eps hp ha)
    | zero =>
      refine (closed_bits (right_left hr hp) (hcl p hp)).2 ?_
      rw [comesF, show decide (w.length = 0) = true from decide_eq_true ha.symm]
      exact comesL_more _ _
  | @all p l m a hp hrr hl hd =>
    cases a with
    | succ a => exact late (.all hp hrr hl hd)
    | zero =>
      refine (closed_bits (right_left hr hp) (hcl p hp)).2 ?_
      rw [comesF, hrr, comesL_app, comesL_end l _ _ hl (comp_der hr hw hB hcl hd 1 _ rfl)]
      exact comesL_more _ _
  | @non p l m n a b hp hrr hd ho ih =>
    cases a with
    | succ a => exact late (.non hp hrr hd ho)
    | zero =>
      refine (closed_bits (right_left hr hp) (hcl p hp)).2 ?_
      rw [comesF, hrr, comesL_app, comesL]
      have hk := comp_der hr hw hB hcl hd 1 (decide (w.length = 0)) rfl
      have hov : overB ⟨true, n⟩ (comesL w (f :: B) l 1 (decide (w.length = 0))).1 (f :: B) = true := by
        rw [overB, Bool.true_and, List.any_eq_true]
        exact ⟨b, List.mem_range.2 (by have := hd.le; omega), by rw [hk, Bool.true_and]; exact ih⟩
      rw [hov, Bool.or_true, Bool.true_or]
      exact comesL_more _ _
end

theorem row_rc {g : Gr} (hr : right g = true) {w : List Int} (hw : w.length ≤ 30) {f : Nat → Nat} {B : List (Nat → Nat)} (hB : RcB g w B) (hcl : ∀ p, p ∈ g.prods → putR f p.left.toNat (comesF w (f :: B) p) = f) (hok : RwOk f) (hs : SndR g w f) : Rc g w f := by
  refine ⟨hok, fun n hn c => ⟨hs.1 n hn c, fun hd => ?_⟩, fun n => ⟨hs.2 n, fun ho => ?_⟩⟩
  · have h1 := comp_der hr hw hB hcl hd 1 false rfl
    rw [comesL, comesL] at h1
    have hc := hd.le.2
    obtain ⟨a, h2, h3, h4⟩ := (stepN_bit (show c < 32 by omega) _).1 h1
    have h0 : (2 ^ 0).testBit a = true := h3
    rw [Nat.testBit_two_pow] at h0
    have : 0 = a := by simpa using h0
    subst this
    rcases h4 with ⟨_, _, h5⟩ | ⟨h5, _⟩
    · exact h5
    · cases h5
  · have := comp_ovr hr hw hB hcl ho
    exact this

theorem f77' (g : Gr) (hg : g.Small) (hr : right g = true) (w : List Int) (hw : w.length ≤ 30) (B : List (Nat → Nat)) (hB : RcB g w B) : ∃ f, PF pg Tq 77 [.agg (eGr g), .ro (w.map eIn), .ro (B.map eRw)] (.agg (eRw f)) ∧ Rc g w f := by
  have hrw : RwIn B := fun j i => by
    by_cases hj : j < w.length
    · exact (hB.2 j hj).1.1 i
    · have : B[j]? = none := List.getElem?_eq_none (by rw [hB.1]; omega)
      unfold rowAt
      rw [List.getD_eq_getElem?_getD, this]
      exact (by decide : 0 < 2 ^ 32)
  obtain ⟨f, h1, h2, h3, h4⟩ := f77 g hg hr w hw B (by rw [hB.1]; exact hw) hrw (SndR g w) ⟨fun n hn c hc => by simp at hc, fun n hc => by simp at hc⟩ fun f p hp hf => put_sound hw hB hf hp (right_left hr hp) (right_syB hr hp)
  exact ⟨f, h1, row_rc hr hw hB h4 h2 h3⟩

end Go.Av

