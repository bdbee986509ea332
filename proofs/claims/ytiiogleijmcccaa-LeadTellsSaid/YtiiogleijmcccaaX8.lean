/-
  Texts X5, X6, X7, X8 of this work, one behind the other. Conditions: none.
-/
import Derived.Test.YtiiogleijmcccaaX4

/-
  Layer 16, the plain law: what goes on over a word's end; rows that are right. Conditions: none.
-/
namespace Go.Av
open Go.Proofs
set_option maxRecDepth 100000
set_option linter.unusedSimpArgs false
set_option linter.unusedVariables false

/-- A word comes of a nonterminal that begins with what is behind a place. -/
inductive Ovr (g : Gr) (w : List Int) : Int → Nat → Prop
  | eps {p : Pr} {a : Nat} (hp : p ∈ g.prods) (ha : a = w.length) : Ovr g w p.left a
  | all {p : Pr} {l m : List Sy} {a : Nat} (hp : p ∈ g.prods) (hr : p.right = l ++ m) (hl : l ≠ []) (hd : Der g w l a w.length) : Ovr g w p.left a
  | non {p : Pr} {l m : List Sy} {n : Int} {a b : Nat} (hp : p ∈ g.prods) (hr : p.right = l ++ ⟨true, n⟩ :: m) (hd : Der g w l a b) (ho : Ovr g w n b) : Ovr g w p.left a

theorem Ovr.le {g : Gr} {w : List Int} {n : Int} {a : Nat} (h : Ovr g w n a) : a ≤ w.length := by
  induction h with
  | eps hp ha => omega
  | all hp hr hl hd => exact hd.le.1
  | non hp hr hd ho ih => have := hd.le; omega

theorem Ovr.prod {g : Gr} {w : List Int} {n : Int} {a : Nat} (h : Ovr g w n a) : ∃ p ∈ g.prods, p.left = n := by
  cases h with
  | eps hp ha => exact ⟨_, hp, rfl⟩
  | all hp hr hl hd => exact ⟨_, hp, rfl⟩
  | non hp hr hd ho => exact ⟨_, hp, rfl⟩

theorem Der.up {g : Gr} {w : List Int} {x : Nat} (hx : x ≤ w.length) {l : List Sy} {a c : Nat} (h : Der g (w.drop x) l a c) : Der g w l (x + a) (x + c) := by
  induction h with
  | nil h => exact .nil (by rw [List.length_drop] at h; omega)
  | term h hl ih => exact .term (by rw [List.getElem?_drop] at h; exact h) ih
  | non hp hr hl ih1 ih2 => exact .non hp ih1 ih2

theorem Der.down {g : Gr} {w : List Int} {x : Nat} {l : List Sy} {y z : Nat} (h : Der g w l y z) : x ≤ y → Der g (w.drop x) l (y - x) (z - x) := by
  induction h with
  | nil h => intro hx; exact .nil (by rw [List.length_drop]; omega)
  | @term t l a c h hl ih =>
    intro hx
    refine .term (by rw [List.getElem?_drop, show x + (a - x) = a by omega]; exact h) ?_
    have := ih (by omega)
    rwa [show a + 1 - x = a - x + 1 by omega] at this
  | non hp hr hl ih1 ih2 =>
    intro hx
    have := hr.le
    exact .non hp (ih1 hx) (ih2 (by omega))

theorem Ovr.up {g : Gr} {w : List Int} {x : Nat} (hx : x ≤ w.length) {n : Int} {a : Nat} (h : Ovr g (w.drop x) n a) : Ovr g w n (x + a) := by
  induction h with
  | eps hp ha => exact .eps hp (by rw [ha, List.length_drop]; omega)
  | all hp hr hl hd =>
    have := hd.up hx
    rw [List.length_drop, show x + (w.length - x) = w.length by omega] at this
    exact .all hp hr hl this
  | non hp hr hd ho ih => exact .non hp hr (hd.up hx) ih

theorem Ovr.down {g : Gr} {w : List Int} {x : Nat} {n : Int} {y : Nat} (h : Ovr g w n y) : x ≤ y → Ovr g (w.drop x) n (y - x) := by
  induction h with
  | eps hp ha => intro hx; exact .eps hp (by rw [ha, List.length_drop])
  | all hp hr hl hd =>
    intro hx
    have := hd.down hx
    rw [← List.length_drop] at this
    exact .all hp hr hl this
  | non hp hr hd ho ih =>
    intro hx
    have := hd.le
    exact .non hp hr (hd.down hx) (ih (by omega))

/-- A row that is right. -/
def Rc (g : Gr) (w : List Int) (f : Nat → Nat) : Prop := RwOk f ∧ (∀ n, n < 24 → ∀ c, (f n).testBit c = true ↔ Der g w [⟨true, (n : Int)⟩] 0 c) ∧ ∀ n, (f 24).testBit n = true ↔ Ovr g w (n : Int) 0

theorem Rc.uniq {g : Gr} {w : List Int} {f f' : Nat → Nat} (h : Rc g w f) (h' : Rc g w f') : f = f' := by
  funext i
  by_cases h1 : i < 24
  · refine Nat.eq_of_testBit_eq fun c => Bool.eq_iff_iff.2 ?_
    rw [h.2.1 i h1 c, h'.2.1 i h1 c]
  · by_cases h2 : i = 24
    · subst h2
      refine Nat.eq_of_testBit_eq fun c => Bool.eq_iff_iff.2 ?_
      rw [h.2.2 c, h'.2.2 c]
    · rw [h.1.2 i (by omega), h'.1.2 i (by omega)]

/-- Rows behind that are right. -/
def RcB (g : Gr) (w : List Int) (B : List (Nat → Nat)) : Prop := B.length = w.length ∧ ∀ a, a < w.length → Rc g (w.drop (a + 1)) (rowAt B a)

/-- What a row may say. -/
def SndR (g : Gr) (w : List Int) (f : Nat → Nat) : Prop := (∀ n, n < 24 → ∀ c, (f n).testBit c = true → Der g w [⟨true, (n : Int)⟩] 0 c) ∧ ∀ n, (f 24).testBit n = true → Ovr g w (n : Int) 0

theorem row_zero {f : Nat → Nat} {B : List (Nat → Nat)} : rowAt (f :: B) 0 = f := rfl
theorem row_succ {f : Nat → Nat} {B : List (Nat → Nat)} {a : Nat} : rowAt (f :: B) (a + 1) = rowAt B a := rfl

theorem rows_sound {g : Gr} {w : List Int} {f : Nat → Nat} {B : List (Nat → Nat)} (hB : RcB g w B) (hf : SndR g w f) {a : Nat} (ha : a < (f :: B).length) :
    (∀ n, n < 24 → ∀ c, (rowAt (f :: B) a n).testBit c = true → Der g w [⟨true, (n : Int)⟩] a (a + c)) ∧ ∀ n, (rowAt (f :: B) a 24).testBit n = true → Ovr g w (n : Int) a := by
  cases a with
  | zero =>
    rw [row_zero]
    exact ⟨fun n hn c hc => by rw [Nat.zero_add]; exact hf.1 n hn c hc, hf.2⟩
  | succ a =>
    rw [row_succ]
    rw [List.length_cons, hB.1] at ha
    obtain ⟨_, h1, h2⟩ := hB.2 a (by omega)
    refine ⟨fun n hn c hc => ?_, fun n hn => ?_⟩
    · have := ((h1 n hn c).1 hc).up (x := a + 1) (by omega)
      rwa [Nat.add_zero] at this
    · have := ((h2 n).1 hn).up (x := a + 1) (by omega)
      rwa [Nat.add_zero] at this

theorem rows_comp {g : Gr} {w : List Int} {f : Nat → Nat} {B : List (Nat → Nat)} (hB : RcB g w B) {a : Nat} (ha : a < w.length) :
    (∀ n : Nat, n < 24 → ∀ c, Der g w [⟨true, (n : Int)⟩] (a + 1) c → (rowAt (f :: B) (a + 1) n).testBit (c - (a + 1)) = true) ∧ ∀ n : Nat, Ovr g w (n : Int) (a + 1) → (rowAt (f :: B) (a + 1) 24).testBit n = true := by
  rw [row_succ]
  obtain ⟨_, h1, h2⟩ := hB.2 a ha
  refine ⟨fun n hn c hc => ?_, fun n hn => ?_⟩
  · refine (h1 n hn _).2 ?_
    have := hc.down (x := a + 1) (Nat.le_refl _)
    rwa [Nat.sub_self] at this
  · refine (h2 n).2 ?_
    have := hn.down (x := a + 1) (Nat.le_refl _)
    rwa [Nat.sub_self] at this

/-- Symbols whose nonterminals have rows. -/
def SyB (l : List Sy) : Prop := ∀ s ∈ l, s.non = true → 0 ≤ s.n ∧ s.n < 24

theorem step_sound {g : Gr} {w : List Int} (hw : w.length ≤ 30) {f : Nat → Nat} {B : List (Nat → Nat)} (hB : RcB g w B) (hf : SndR g w f) {s : Sy} (hs : s.non = true → 0 ≤ s.n ∧ s.n < 24) {l : List Sy} {k : Nat} (hk : ∀ c, k.testBit c = true → Der g w l 0 c) (hk32 : k < 2 ^ 32) :
    ∀ c, (stepF s k w (f :: B)).testBit c = true → Der g w (l ++ [s]) 0 c := by
  intro c hc
  have hlt : stepF s k w (f :: B) < 2 ^ 32 := stepF_lt (by rw [List.length_cons, hB.1]; omega)
  have hc32 : c < 32 := by
    by_cases h : c < 32
    · exact h
    · rw [Nat.testBit_lt_two_pow (Nat.lt_of_lt_of_le hlt (Nat.pow_le_pow_right (by decide) (by omega)))] at hc
      cases hc
  obtain ⟨a, h1, h2, h3⟩ := (stepN_bit hc32 _).1 hc
  refine (hk a h2).append ?_
  rcases h3 with ⟨hn, hac, hb⟩ | ⟨hn, hwa, e⟩
  · obtain ⟨q1, q2⟩ := hs hn
    have := (rows_sound hB hf h1).1 s.n.toNat (by omega) _ hb
    rw [show a + (c - a) = c by omega, show ((s.n.toNat : Nat) : Int) = s.n by omega] at this
    obtain ⟨b, n⟩ := s
    simp only at hn
    subst hn
    exact this
  · obtain ⟨b, n⟩ := s
    simp only at hn
    subst hn
    subst e
    have := (List.getElem?_eq_some_iff.1 hwa).1
    exact .term hwa (.nil (by omega))

theorem comes_sound {g : Gr} {w : List Int} (hw : w.length ≤ 30) {f : Nat → Nat} {B : List (Nat → Nat)} (hB : RcB g w B) (hf : SndR g w f) {p : Pr} (hp : p ∈ g.prods) (hs : SyB p.right) :
    ∀ (r l : List Sy) (k : Nat) (m : Bool), p.right = l ++ r → (∀ c, k.testBit c = true → Der g w l 0 c) → k < 2 ^ 32 → (m = true → Ovr g w p.left 0) →
    (∀ c, (comesL w (f :: B) r k m).1.testBit c = true → Der g w p.right 0 c) ∧ ((comesL w (f :: B) r k m).2 = true → Ovr g w p.left 0)
  | [], l, k, m, he, hk, hk32, hm => by
    rw [List.append_nil] at he
    rw [comesL, he]
    exact ⟨hk, hm⟩
  | s :: r, l, k, m, he, hk, hk32, hm => by
    have hss := hs s (by rw [he]; simp)
    have h1 := step_sound hw hB hf hss hk hk32
    have hrl : (f :: B).length ≤ 31 := by rw [List.length_cons, hB.1]; omega
    refine comes_sound hw hB hf hp hs r (l ++ [s]) _ _ (by rw [he]; simp) h1 (stepF_lt hrl) fun hm' => ?_
    rw [Bool.or_eq_true, Bool.or_eq_true] at hm'
    rcases hm' with (hm' | hm') | hm'
    · exact hm hm'
    · rw [overB, Bool.and_eq_true, List.any_eq_true] at hm'
      obtain ⟨hn, a, ha, hab⟩ := hm'
      rw [Bool.and_eq_true] at hab
      obtain ⟨q1, q2⟩ := hss hn
      have ho := (rows_sound hB hf (List.mem_range.1 ha)).2 s.n.toNat hab.2
      rw [show ((s.n.toNat : Nat) : Int) = s.n by omega] at ho
      obtain ⟨b, n⟩ := s
      simp only at hn
      subst hn
      exact .non hp he (hk a hab.1) ho
    · exact .all hp (l := l ++ [s]) (m := r) (by rw [he]; simp) (by simp) (h1 _ hm')

theorem put_sound {g : Gr} {w : List Int} (hw : w.length ≤ 30) {f : Nat → Nat} {B : List (Nat → Nat)} (hB : RcB g w B) (hf : SndR g w f) {p : Pr} (hp : p ∈ g.prods) (hl : 0 ≤ p.left ∧ p.left < 24) (hs : SyB p.right) : SndR g w (putR f p.left.toNat (comesF w (f :: B) p)) := by
  have hlt : ((p.left.toNat : Nat) : Int) = p.left := by omega
  obtain ⟨h1, h2⟩ := comes_sound hw hB hf hp hs p.right [] 1 (decide (w.length = 0)) rfl (fun c hc => by
    have h2 : (2 ^ 0).testBit c = true := hc
    rw [Nat.testBit_two_pow] at h2
    have : 0 = c := by simpa using h2
    subst this
    exact .nil (by omega)) (by decide) (fun hm => .eps hp (by simpa using hm : w.length = 0).symm)
  have h1' : ∀ c, (comesF w (f :: B) p).1.testBit c = true → Der g w [⟨true, p.left⟩] 0 c := fun c hc => by
    have := h1 c hc
    exact .non hp this (.nil this.le.2)
  refine ⟨fun n hn c hc => ?_, fun n hc => ?_⟩
  · unfold putR at hc
    rw [if_neg (by omega)] at hc
    split at hc
    · rename_i e
      rw [Nat.testBit_or, Bool.or_eq_true] at hc
      rcases hc with hc | hc
      · rw [e]; exact hf.1 _ (by omega) c hc
      · rw [e, hlt]; exact h1' c hc
    · exact hf.1 n hn c hc
  · unfold putR at hc
    rw [if_pos rfl] at hc
    split at hc
    · rename_i e
      rw [Nat.testBit_or, Bool.or_eq_true] at hc
      rcases hc with hc | hc
      · exact hf.2 n hc
      · rw [Nat.testBit_two_pow] at hc
        have : p.left.toNat = n := by simpa using hc
        rw [← this, hlt]
        exact h2 e
    · exact hf.2 n hc

end Go.Av

/-
  Layer 16: a row is right; a word's rows. Conditions: none.
-/
namespace Go.Av
open Go.Proofs
set_option maxRecDepth 100000
set_option linter.unusedSimpArgs false
set_option linter.unusedVariables false

theorem comesL_app {w : List Int} {rows : List (Nat → Nat)} {m : List Sy} : ∀ (l : List Sy) (k : Nat) (mo : Bool), comesL w rows (l ++ m) k mo = comesL w rows m (comesL w rows l k mo).1 (comesL w rows l k mo).2
  | [], k, mo => rfl
  | s :: l, k, mo => by
    rw [List.cons_append, comesL, comesL]
    exact comesL_app l _ _

theorem comesL_more {w : List Int} {rows : List (Nat → Nat)} : ∀ (l : List Sy) (k : Nat), (comesL w rows l k true).2 = true
  | [], k => rfl
  | s :: l, k => by
    rw [comesL]
    exact comesL_more l _

theorem comesL_end {w : List Int} {rows : List (Nat → Nat)} : ∀ (l : List Sy) (k : Nat) (mo : Bool), l ≠ [] → (comesL w rows l k mo).1.testBit w.length = true → (comesL w rows l k mo).2 = true
  | [], k, mo, h, _ => absurd rfl h
  | [s], k, mo, _, hb => by
    rw [comesL, comesL] at hb ⊢
    simp only at hb ⊢
    rw [hb, Bool.or_true]
  | s :: s' :: l, k, mo, _, hb => by
    rw [comesL] at hb ⊢
    exact comesL_end (s' :: l) _ _ (by simp) hb

theorem right_syB {g : Gr} (hr : right g = true) {p : Pr} (hp : p ∈ g.prods) : SyB p.right := by
  obtain ⟨⟨hn1, hn2⟩, _, _, hp60, h5⟩ := right_in hr
  intro s hs hn
  have := (h5 p hp).2.2 s hs
  rw [if_pos hn] at this
  omega

theorem right_left {g : Gr} (hr : right g = true) {p : Pr} (hp : p ∈ g.prods) : 0 ≤ p.left ∧ p.left < 24 := by
  obtain ⟨⟨hn1, hn2⟩, _, _, hp60, h5⟩ := right_in hr
  have := (h5 p hp).1
  omega

theorem closed_bits {w : List Int} {f : Nat → Nat} {B : List (Nat → Nat)} {p : Pr} (hl : 0 ≤ p.left ∧ p.left < 24) (h : putR f p.left.toNat (comesF w (f :: B) p) = f) :
    (∀ c, (comesF w (f :: B) p).1.testBit c = true → (f p.left.toNat).testBit c = true) ∧ ((comesF w (f :: B) p).2 = true → (f 24).testBit p.left.toNat = true) := by
  refine ⟨fun c hc => ?_, fun hm => ?_⟩
  · have h1 := congrFun h p.left.toNat
    unfold putR at h1
    rw [if_neg (by omega), if_pos rfl] at h1
    rw [← h1, Nat.testBit_or, hc, Bool.or_true]
  · have h1 := congrFun h 24
    unfold putR at h1
    rw [if_pos rfl, if_pos hm] at h1
    rw [← h1, Nat.testBit_or, Nat.testBit_two_pow]
    simp

section
variable {g : Gr} (hr : right g = true) {w : List Int} (hw : w.length ≤ 30) {f : Nat → Nat} {B : List (Nat → Nat)} (hB : RcB g w B) (hcl : ∀ p, p ∈ g.prods → putR f p.left.toNat (comesF w (f :: B) p) = f)
include hr hw hB hcl

theorem comp_der {l : List Sy} {a c : Nat} (h : Der g w l a c) : ∀ (k : Nat) (mo : Bool), k.testBit a = true → (comesL w (f :: B) l k mo).1.testBit c = true := by
  have hlen : (f :: B).length = w.length + 1 := by rw [List.length_cons, hB.1]
  induction h with
  | nil h => intro k mo hk; exact hk
  | @term t l a c h hl ih =>
    intro k mo hk
    rw [comesL]
    refine ih _ _ ?_
    have hal := (List.getElem?_eq_some_iff.1 h).1
    exact (stepN_bit (show a + 1 < 32 by omega) _).2 ⟨a, by omega, hk, .inr ⟨rfl, h, rfl⟩⟩
  | @non p l a b c hp hrr hl ih1 ih2 =>
    intro k mo hk
    rw [comesL]
    refine ih2 _ _ ?_
    obtain ⟨q1, q2⟩ := right_left hr hp
    have hab := hrr.le
    refine (stepN_bit (show b < 32 by omega) _).2 ⟨a, by omega, hk, .inl ⟨rfl, hab.1, ?_⟩⟩
    show (rowAt (f :: B) a p.left.toNat).testBit (b - a) = true
    cases a with
    | zero =>
      rw [row_zero]
      exact (closed_bits (right_left hr hp) (hcl p hp)).1 _ (ih1 1 _ rfl)
    | succ a =>
      refine (rows_comp hB (by omega)).1 p.left.toNat (by omega) b ?_
      rw [show ((p.left.toNat : Nat) : Int) = p.left by omega]
      exact .non hp hrr (.nil hab.2)

theorem comp_ovr {n : Int} {a : Nat} (h : Ovr g w n a) : (rowAt (f :: B) a 24).testBit n.toNat = true := by
  have hlen : (f :: B).length = w.length + 1 := by rw [List.length_cons, hB.1]
  have late : ∀ {n : Int} {a : Nat}, Ovr g w n (a + 1) → (rowAt (f :: B) (a + 1) 24).testBit n.toNat = true := fun {n a} h => by
    obtain ⟨p, hp, rfl⟩ := h.prod
    obtain ⟨q1, q2⟩ := right_left hr hp
    refine (rows_comp hB (by have := h.le; omega)).2 p.left.toNat ?_
    rw [show ((p.left.toNat : Nat) : Int) = p.left by omega]
    exact h
  induction h with
  | @eps p a hp ha =>
    cases a with
    | succ a => exact late (.eps hp ha)
    | zero =>
      refine (closed_bits (right_left hr hp) (hcl p hp)).2 ?_
      rw [comesF, show decide (w.length = 0) = true from decide_eq_true ha.symm]
      exact comesL_more _ _
  | @all p l m a hp hrr hl hd =>
    cases a with
    | succ a => exact late (.all hp hrr hl hd)
    | zero =>
      refine (closed_bits (right_left hr hp) (hcl p hp)).2 ?_
      rw [comesF, hrr, comesL_app, comesL_end l _ _ hl (comp_der hr hw hB hcl hd 1 _ rfl)]
      exact comesL_more _ _
  | @non p l m n a b hp hrr hd ho ih =>
    cases a with
    | succ a => exact late (.non hp hrr hd ho)
    | zero =>
      refine (closed_bits (right_left hr hp) (hcl p hp)).2 ?_
      rw [comesF, hrr, comesL_app, comesL]
      have hk := comp_der hr hw hB hcl hd 1 (decide (w.length = 0)) rfl
      have hov : overB ⟨true, n⟩ (comesL w (f :: B) l 1 (decide (w.length = 0))).1 (f :: B) = true := by
        rw [overB, Bool.true_and, List.any_eq_true]
        exact ⟨b, List.mem_range.2 (by have := hd.le; omega), by rw [hk, Bool.true_and]; exact ih⟩
      rw [hov, Bool.or_true, Bool.true_or]
      exact comesL_more _ _
end

theorem row_rc {g : Gr} (hr : right g = true) {w : List Int} (hw : w.length ≤ 30) {f : Nat → Nat} {B : List (Nat → Nat)} (hB : RcB g w B) (hcl : ∀ p, p ∈ g.prods → putR f p.left.toNat (comesF w (f :: B) p) = f) (hok : RwOk f) (hs : SndR g w f) : Rc g w f := by
  refine ⟨hok, fun n hn c => ⟨hs.1 n hn c, fun hd => ?_⟩, fun n => ⟨hs.2 n, fun ho => ?_⟩⟩
  · have h1 := comp_der hr hw hB hcl hd 1 false rfl
    rw [comesL, comesL] at h1
    have hc := hd.le.2
    obtain ⟨a, h2, h3, h4⟩ := (stepN_bit (show c < 32 by omega) _).1 h1
    have h0 : (2 ^ 0).testBit a = true := h3
    rw [Nat.testBit_two_pow] at h0
    have : 0 = a := by simpa using h0
    subst this
    rcases h4 with ⟨_, _, h5⟩ | ⟨h5, _⟩
    · exact h5
    · cases h5
  · have := comp_ovr hr hw hB hcl ho
    exact this

theorem f77' (g : Gr) (hg : g.Small) (hr : right g = true) (w : List Int) (hw : w.length ≤ 30) (B : List (Nat → Nat)) (hB : RcB g w B) : ∃ f, PF pg Tq 77 [.agg (eGr g), .ro (w.map eIn), .ro (B.map eRw)] (.agg (eRw f)) ∧ Rc g w f := by
  have hrw : RwIn B := fun j i => by
    by_cases hj : j < w.length
    · exact (hB.2 j hj).1.1 i
    · have : B[j]? = none := List.getElem?_eq_none (by rw [hB.1]; omega)
      unfold rowAt
      rw [List.getD_eq_getElem?_getD, this]
      exact (by decide : 0 < 2 ^ 32)
  obtain ⟨f, h1, h2, h3, h4⟩ := f77 g hg hr w hw B (by rw [hB.1]; exact hw) hrw (SndR g w) ⟨fun n hn c hc => by simp at hc, fun n hc => by simp at hc⟩ fun f p hp hf => put_sound hw hB hf hp (right_left hr hp) (right_syB hr hp)
  exact ⟨f, h1, row_rc hr hw hB h4 h2 h3⟩

end Go.Av

/-
  Layer 16: a word's rows. Conditions: none.
-/
namespace Go.Av
open Go.Proofs
set_option maxRecDepth 100000
set_option linter.unusedSimpArgs false
set_option linter.unusedVariables false

/-- A word's rows, all right. -/
def RowsC (g : Gr) (w : List Int) (l : List (Nat → Nat)) : Prop := l.length = w.length + 1 ∧ ∀ a, a < l.length → Rc g (w.drop a) (rowAt l a)

theorem RowsC.uniq {g : Gr} {w : List Int} {l l' : List (Nat → Nat)} (h : RowsC g w l) (h' : RowsC g w l') : l = l' := by
  refine List.ext_getElem? fun a => ?_
  by_cases ha : a < l.length
  · rw [row_get ha, row_get (by rw [h'.1, ← h.1]; exact ha), (h.2 a ha).uniq (h'.2 a (by rw [h'.1, ← h.1]; exact ha))]
  · rw [List.getElem?_eq_none (by omega), List.getElem?_eq_none (by rw [h'.1, ← h.1]; omega)]

theorem fit_right {g : Gr} {w : List Int} (h : fitG g w = true) : right g = true := by
  rw [fitG, Bool.and_eq_true] at h
  cases hr : right g
  · have h1 := h.1
    rw [checkL, hr] at h1
    cases h1
  · rfl

theorem fit_len {g : Gr} {w : List Int} (h : fitG g w = true) : w.length ≤ 24 := by
  rw [fitG, fitsW, rightW, Bool.and_eq_true, Bool.and_eq_true, Bool.and_eq_true] at h
  have := of_decide_eq_true h.2.1.1
  omega

set_option maxHeartbeats 8000000 in
theorem f74 (g : Gr) (hg : g.Small) (w : List Int) (hwl : w.length < 2 ^ 40) : ∃ l, PF pg Tq 74 [.agg (eGr g), .ro (w.map eIn)] (.ro (l.map eRw)) ∧ (fitG g w = false → l = []) ∧ (fitG g w = true → RowsC g w l) := by
  have fin : FH pg Tq 74 [.agg (eGr g), .ro (w.map eIn)] h0 0 fun r h n => ∃ l, SlL eRw 25 h 0 n r l ∧ (fitG g w = false → l = []) ∧ (fitG g w = true → RowsC g w l) := by
    refine FH.of (N := 38) (rs := #[.tmp 4]) Try.func74 rfl rfl (of_decide_eq_true rfl) rfl (by decide) ?_
    refine W.rseq (k := 2) rfl fun K hK => ?_
    simp only [go_sem]
    refine hK _ _ _ ?_
    clear hK K
    refine W.seq ?_
    refine W.rseq (k := 7) rfl fun K hK => ?_
    simp only [go_sem]
    refine VCall.frz 6 (f66 g hg) rfl ?_
    try simp only [go_sem]
    refine hK _ _ _ ?_
    clear hK K
    refine W.rseq (k := 8) rfl fun K hK => ?_
    by_cases hc : (checkL g).2 = 0
    · simp only [go_sem, decide_eq_true hc]
      refine VCall.frz 6 (f108 g w hwl) rfl ?_
      cases hf : fitsW g w
      · simp only [go_sem]
        refine hK _ _ _ ?_
        first | clear hK K | clear hK | skip
        refine W.condT (by simp only [go_sem]) ?_
        refine W.rseq (k := 1) rfl fun K hK => ?_
        simp only [go_sem]
        refine hK _ _ _ ?_
        clear hK K
        refine W.ret ?_
        simp only [go_sem]
        have hfg : fitG g w = false := by rw [fitG, hf, Bool.and_false]
        exact ⟨[], .inl ⟨rfl, rfl⟩, fun _ => rfl, fun e => by rw [hfg] at e; cases e⟩
      · simp only [go_sem]
        refine hK _ _ _ ?_
        first | clear hK K | clear hK | skip
        refine W.condF (by simp only [go_sem]) ?_
        refine W.skip ?_
        simp only [go_sem]
        have hfg : fitG g w = true := by rw [fitG, hf, decide_eq_true hc]; rfl
        have hr := fit_right hfg
        have hw := fit_len hfg
        clear hc hf
        refine W.rseq (k := 1) rfl fun K hK => ?_
        simp only [go_sem]
        refine hK _ _ _ ?_
        clear hK K
        refine W.seqk fun K hK => ?_
        refine W.rseq (k := 3) rfl fun K hK => ?_
        simp only [go_sem]
        refine hK _ _ _ ?_
        clear hK K
        have nx0 : ∀ (t' : Fr) (h' : Heap) (n' : Nat) (l : List (Nat → Nat)), SlL eRw 25 h' 1 n' (t' 7) l → RowsC g w l → K t' h' n' := by
          intro t' h' n' l e1 e2
          refine hK _ _ _ ?_
          clear hK K
          refine W.rseq (k := 2) rfl fun K hK => ?_
          simp only [go_sem]
          refine hK _ _ _ ?_
          clear hK K
          refine W.ret ?_
          simp only [go_sem]
          exact ⟨l, e1.next rfl (fun x hx hx' => rfl) (by omega) (by omega), (fun e => by rw [hfg] at e; cases e), fun _ => e2⟩
        clear hK
        refine W.block (W.while (fun m t h n => ∃ (j : Nat) (L : List (Nat → Nat)), m = j ∧ j ≤ w.length + 1 ∧ 0 < n ∧ L.length = w.length + 1 - j ∧ (∀ a, a < L.length → Rc g (w.drop (j + a)) (rowAt L a)) ∧ h 0 = some (.cells [eGr g]) ∧ SlL eRw 25 h 1 n (t 7) L ∧ (t 1 = .ro (w.map eIn) ∧ t 2 = .ptr 0 0 0) ∧ t 8 = .int .i64 ((j : Int) - 1)) (w.length + 1)
          ⟨w.length + 1, [], rfl, Nat.le_refl _, by omega, by simp, fun a ha => by simp at ha, by simp only [go_sem], .inl ⟨rfl, rfl⟩, ⟨rfl, rfl⟩, by simp only [go_sem]; congr 1; omega⟩ fun m t h n ⟨j, L, i1, i2, i3, i4, i5, i6, i7, i8, i9⟩ => ?_)
        obtain ⟨a1, a2⟩ := i8
        refine W.seq ?_
        refine W.rseq (k := 2) rfl fun K hK => ?_
        simp only [go_sem, i9]
        refine hK _ _ _ ?_
        clear hK K
        cases j with
        | zero =>
          refine W.condF (by simp only [go_sem]; rfl) ?_
          refine W.exit ?_
          simp only [go_sem]
          refine nx0 _ _ _ L (i7.next rfl (fun x hx hx' => rfl) (by omega) (Nat.le_refl _)) ⟨by rw [i4]; rfl, fun a ha => ?_⟩
          have := i5 a ha
          rwa [Nat.zero_add] at this
        | succ i =>
          have e9 : t 8 = .int .i64 (i : Int) := by rw [i9]; congr 1; omega
          clear i9
          refine W.condT (by simp only [go_sem]; exact congrArg (fun b => some (AV.bool b)) (decide_eq_true (by omega))) ?_
          refine W.skip ?_
          simp only [go_sem]
          have hi : i ≤ w.length := by omega
          have hRB : RcB g (w.drop i) L := by
            refine ⟨by rw [i4, List.length_drop]; omega, fun a ha => ?_⟩
            rw [List.drop_drop, show i + (a + 1) = i + 1 + a by omega]
            exact i5 a (by rw [i4]; rw [List.length_drop] at ha; omega)
          obtain ⟨f, h77, hrc⟩ := f77' g hg hr (w.drop i) (by rw [List.length_drop]; omega) L hRB
          have z0 : ∀ j, ¬ 0 = n + j := fun j => by omega
          have l0 : ∀ j, (0 < n + j) = True := fun j => eq_true (by omega)
          refine W.seqk fun K hK => ?_
          have nx : ∀ (t' : Fr) (h' : Heap) (n' : Nat), 0 < n' → h' 0 = some (.cells [eGr g]) → SlL eRw 25 h' 1 n' (t' 7) (f :: L) → (t' 1 = .ro (w.map eIn) ∧ t' 2 = .ptr 0 0 0) → t' 8 = .int .i64 (i : Int) → K t' h' n' := by
            intro t' h' n' e1 e2 e3 e4 e5
            refine hK _ _ _ ?_
            clear hK K
            refine W.region (k := 3) rfl ?_
            simp only [go_sem, e5]
            refine ⟨i, by omega, i, f :: L, rfl, by omega, by omega, by rw [List.length_cons, i4]; omega, fun a ha => ?_, e2, e3.next rfl (fun x hx hx' => rfl) (by omega) (Nat.le_refl _), e4, ?_⟩
            · cases a with
              | zero => exact hrc
              | succ a =>
                rw [row_succ, show i + (a + 1) = i + 1 + a by omega]
                rw [List.length_cons] at ha
                exact i5 a (by omega)
            · rw [wrap64 (by omega) (by omega)]
          clear hK
          have hfz : rf true 4 h (t 7) = some (.ro (L.map eRw)) := i7.frz (d := 2) fun x _ => rfs_rw
          have hLl : L.length ≤ 30 := by omega
          refine W.block ?_
          refine W.draw (k := 10) rfl ?_
          simp only [go_sem, a1, a2, e9, i6, l0, z0, List.length_map, cut_map, len_map (e := eIn) (sz := 1) (fun x => rfl), show (i : Int) ≤ (w.length : Int) by omega, hi]
          refine VCall.frzq (as' := [.agg (eGr g), .ro ((w.drop i).map eIn), .ro (L.map eRw)]) 5 ?_ h77 ?_
          · simp only [rfs, List.mapM_cons, hfz]
            rfl
          rcases i7 with ⟨w0, w5⟩ | ⟨b, w5, w1, w2, w3⟩
          · simp only [go_sem, w5, eR_len, eR_scal, show n ≤ n + 6 by omega, if_true]
            refine ⟨by kernel_rfl, ?_⟩
            refine nx _ _ _ (by omega) (by simp only [go_sem, z0, i6]) (.inr ⟨n + 10, by rw [w0]; rfl, by omega, by omega, by rw [w0]; simp only [go_sem]; rfl⟩) ⟨a1, a2⟩ e9
          · have zb : ∀ j, ¬ b = n + j := fun j => by omega
            have lb : ∀ j, (b < n + j) = True := fun j => eq_true (by omega)
            have tkL : (L.map eRw).take L.length = L.map eRw := List.take_of_length_le (by simp)
            simp only [go_sem, w5, w3, zb, lb, tkL, List.length_map, eR_len, eR_scal, show n ≤ n + 6 by omega, if_true, show (1 + L.length) * 100 ≤ 140737488355328 by omega, and_false, if_false, Nat.lt_irrefl]
            refine ⟨by kernel_rfl, ?_⟩
            refine nx _ _ _ (by omega) (by simp only [go_sem, z0, i6]) (.inr ⟨n + 10, by rw [List.length_cons, Nat.add_comm L.length]; rfl, by omega, by omega, by simp only [go_sem]; rfl⟩) ⟨a1, a2⟩ e9
    · simp only [go_sem, decide_eq_false hc]
      refine hK _ _ _ ?_
      first | clear hK K | clear hK | skip
      refine W.condT (by simp only [go_sem]) ?_
      refine W.rseq (k := 1) rfl fun K hK => ?_
      simp only [go_sem]
      refine hK _ _ _ ?_
      clear hK K
      refine W.ret ?_
      simp only [go_sem]
      have hfg : fitG g w = false := by rw [fitG, decide_eq_false hc, Bool.false_and]
      exact ⟨[], .inl ⟨rfl, rfl⟩, fun _ => rfl, fun e => by rw [hfg] at e; cases e⟩
  obtain ⟨r, h', n', hb, l, ho, q⟩ := fin
  exact ⟨l, ⟨_, h', n', hb, 5, fun fr => ho.frz (d := 3) fun x _ => rfs_rw⟩, q⟩

end Go.Av

/-
  Layer 16: rows are the same; rows of one's own. Conditions: none.
-/
namespace Go.Av
open Go.Proofs
set_option maxRecDepth 100000
set_option linter.unusedSimpArgs false
set_option linter.unusedVariables false

end Go.Av
