/-
  Layer 16, the plain law: what goes on over a word's end; rows that are right. Conditions: none.
-/
import Derived.Test.YtiiogleijmcccaaX4
namespace Go.Av
open Go.Proofs
set_option maxRecDepth 100000
set_option linter.unusedSimpArgs false
set_option linter.unusedVariables false

/-- A word comes of a nonterminal that begins with what is behind a place. -/
inductive Ovr (g : Gr) (w : List Int) : Int → Nat → Prop
  | eps {p : Pr} {a : Nat} (hp : p ∈ g.prods) (ha : a = w.length) : Ovr g w p.left a
  | all {p : Pr} {l m : List Sy} {a : Nat} (hp : p ∈ g.prods) (hr : p.right = l ++ m) (hl : l ≠ []) (hd : Der g w l a w.length) : Ovr g w p.left a
  | non {p : Pr} {l m : List Sy} {n : Int} {a b : Nat} (hp : p ∈ g.prods) (hr : p.right = l ++ ⟨true, n⟩ :: m) (hd : Der g w l a b) (ho : Ovr g w n b) : Ovr g w p.left a

theorem Ovr.le {g : Gr} {w : List Int} {n : Int} {a : Nat} (h : Ovr g w n a) : a ≤ w.length := by
  induction h with
  | eps hp ha => omega
  | all hp hr hl hd => exact hd.le.1
  | non hp hr hd ho ih => have := hd.le; omega

theorem Ovr.prod {g : Gr} {w : List Int} {n : Int} {a : Nat} (h : Ovr g w n a) : ∃ p ∈ g.prods, p.left = n := by
  cases h with
  | eps hp ha => exact ⟨_, hp, rfl⟩
  | all hp hr hl hd => exact ⟨_, hp, rfl⟩
  | non hp hr hd ho => exact ⟨_, hp, rfl⟩

theorem Der.up {g : Gr} {w : List Int} {x : Nat} (hx : x ≤ w.length) {l : List Sy} {a c : Nat} (h : Der g (w.drop x) l a c) : Der g w l (x + a) (x + c) := by
  induction h with
  | nil h => exact .nil (by rw [List.length_drop] at h; omega)
  | term h hl ih => exact .term (by rw [List.getElem?_drop] at h; exact h) ih
  | non hp hr hl ih1 ih2 => exact .non hp ih1 ih2

theorem Der.down {g : Gr} {w : List Int} {x : Nat} {l : List Sy} {y z : Nat} (h : Der g w l y z) : x ≤ y → Der g (w.drop x) l (y - x) (z - x) := by
  induction h with
  | nil h => intro hx; exact .nil (by rw [List.length_drop]; omega)
  | @term t l a c h hl ih =>
    intro hx
    refine .term (by rw [List.getElem?_drop, show x + (a - x) = a by omega]; exact h) ?_
    have := ih (by omega)
    rwa [show a + 1 - x = a - x + 1 by omega] at this
  | non hp hr hl ih1 ih2 =>
    intro hx
    have := hr.le
    exact .non hp (ih1 hx) (ih2 (by omega))

theorem Ovr.up {g : Gr} {w : List Int} {x : Nat} (hx : x ≤ w.length) {n : Int} {a : Nat} (h : Ovr g (w.drop x) n a) : Ovr g w n (x + a) := by
  induction h with
  | eps hp ha => exact .eps hp (by rw [ha, List.length_drop]; omega)
  | all hp hr hl hd =>
    have := hd.up hx
    rw [List.length_drop, show x + (w.length - x) = w.length by omega] at this
    exact .all hp hr hl this
  | non hp hr hd ho ih => exact .non hp hr (hd.up hx) ih

theorem Ovr.down {g : Gr} {w : List Int} {x : Nat} {n : Int} {y : Nat} (h : Ovr g w n y) : x ≤ y → Ovr g (w.drop x) n (y - x) := by
  induction h with
  | eps hp ha => intro hx; exact .eps hp (by rw [ha, List.length_drop])
  | all hp hr hl hd =>
    intro hx
    have := hd.down hx
    rw [← List.length_drop] at this
    exact .all hp hr hl this
  | non hp hr hd ho ih =>
    intro hx
    have := hd.le
    exact .non hp hr (hd.down hx) (ih (by omega))

/-- A row that is right. -/
def Rc (g : Gr) (w : List Int) (f : Nat → Nat) : Prop := RwOk f ∧ (∀ n, n < 24 → ∀ c, (f n).testBit c = true ↔ Der g w [⟨true, (n : Int)⟩] 0 c) ∧ ∀ n, (f 24).testBit n = true ↔ Ovr g w (n : Int) 0

theorem Rc.uniq {g : Gr} {w : List Int} {f f' : Nat → Nat} (h : Rc g w f) (h' : Rc g w f') : f = f' := by
  funext i
  by_cases h1 : i < 24
  · refine Nat.eq_of_testBit_eq fun c => Bool.eq_iff_iff.2 ?_
    rw [h.2.1 i h1 c, h'.2.1 i h1 c]
  · by_cases h2 : i = 24
    · subst h2
      refine Nat.eq_of_testBit_eq fun c => Bool.eq_iff_iff.2 ?_
      rw [h.2.2 c, h'.2.2 c]
    · rw [h.1.2 i (by omega), h'.1.2 i (by omega)]

/-- Rows behind that are right. -/
def RcB (g : Gr) (w : List Int) (B : List (Nat → Nat)) : Prop := B.length = w.length ∧ ∀ a, a < w.length → Rc g (w.drop (a + 1)) (rowAt B a)

/-- What a row may say. -/
def SndR (g : Gr) (w : List Int) (f : Nat → Nat) : Prop := (∀ n, n < 24 → ∀ c, (f n).testBit c = true → Der g w [⟨true, (n : Int)⟩] 0 c) ∧ ∀ n, (f 24).testBit n = true → Ovr g w (n : Int) 0

theorem row_zero {f : Nat → Nat} {B : List (Nat → Nat)} : rowAt (f :: B) 0 = f := rfl
theorem row_succ {f : Nat → Nat} {B : List (Nat → Nat)} {a : Nat} : rowAt (f :: B) (a + 1) = rowAt B a := rfl

theorem rows_sound {g : Gr} {w : List Int} {f : Nat → Nat} {B : List (Nat → Nat)} (hB : RcB g w B) (hf : SndR g w f) {a : Nat} (ha : a < (f :: B).length) :
    (∀ n, n < 24 → ∀ c, (rowAt (f :: B) a n).testBit c = true → Der g w [⟨true, (n : Int)⟩] a (a + c)) ∧ ∀ n, (rowAt (f :: B) a 24).testBit n = true → Ovr g w (n : Int) a := by
  cases a with
  | zero =>
    rw [row_zero]
    exact ⟨fun n hn c hc => by rw [Nat.zero_add]; exact hf.1 n hn c hc, hf.2⟩
  | succ a =>
    rw [row_succ]
    rw [List.length_cons, hB.1] at ha
    obtain ⟨_, h1, h2⟩ := hB.2 a (by omega)
    refine ⟨fun n hn c hc => ?_, fun n hn => ?_⟩
    · have := ((h1 n hn c).1 hc).up (x := a + 1) (by omega)
      rwa [Nat.add_zero] at this
    · have := ((h2 n).1 hn).up (x := a + 1) (by omega)
      rwa [Nat.add_zero] at this

theorem rows_comp {g : Gr} {w : List Int} {f : Nat → Nat} {B : List (Nat → Nat)} (hB : RcB g w B) {a : Nat} (ha : a < w.length) :
    (∀ n : Nat, n < 24 → ∀ c, Der g w [⟨true, (n : Int)⟩] (a + 1) c → (rowAt (f :: B) (a + 1) n).testBit (c - (a + 1)) = true) ∧ ∀ n : Nat, Ovr g w (n : Int) (a + 1) → (rowAt (f :: B) (a + 1) 24).testBit n = true := by
  rw [row_succ]
  obtain ⟨_, h1, h2⟩ := hB.2 a ha
  refine ⟨fun n hn c hc => ?_, fun n hn => ?_⟩
  · refine (h1 n hn _).2 ?_
    have := hc.down (x := a + 1) (Nat.le_refl _)
    rwa [Nat.sub_self] at this
  · refine (h2 n).2 ?_
    have := hn.down (x := a + 1) (Nat.le_refl _)
    rwa [Nat.sub_self] at this

/-- Symbols whose nonterminals have rows. -/
def SyB (l : List Sy) : Prop := ∀ s ∈ l, s.non = true → 0 ≤ s.n ∧ s.n < 24

theorem step_sound {g : Gr} {w : List Int} (hw : w.length ≤ 30) {f : Nat → Nat} {B : List (Nat → Nat)} (hB : RcB g w B) (hf : SndR g w f) {s : Sy} (hs : s.non = true → 0 ≤ s.n ∧ s.n < 24) {l : List Sy} {k : Nat} (hk : ∀ c, k.testBit c = true → Der g w l 0 c) (hk32 : k < 2 ^ 32) :
    ∀ c, (stepF s k w (f :: B)).testBit c = true → Der g w (l ++ [s]) 0 c := by
  intro c hc
  have hlt : stepF s k w (f :: B) < 2 ^ 32 := stepF_lt (by rw [List.length_cons, hB.1]; omega)
  have hc32 : c < 32 := by
    by_cases h : c < 32
    · exact h
    · rw [Nat.testBit_lt_two_pow (Nat.lt_of_lt_of_le hlt (Nat.pow_le_pow_right (by decide) (by omega)))] at hc
      cases hc
  obtain ⟨a, h1, h2, h3⟩ := (stepN_bit hc32 _).1 hc
  refine (hk a h2).append ?_
  rcases h3 with ⟨hn, hac, hb⟩ | ⟨hn, hwa, e⟩
  · obtain ⟨q1, q2⟩ := hs hn
    have := (rows_sound hB hf h1).1 s.n.toNat (by omega) _ hb
    rw [show a + (c - a) = c by omega, show ((s.n.toNat : Nat) : Int) = s.n by omega] at this
    obtain ⟨b, n⟩ := s
    simp only at hn
    subst hn
    exact this
  · obtain ⟨b, n⟩ := s
    simp only at hn
    subst hn
    subst e
    have := (List.getElem?_eq_some_iff.1 hwa).1
    exact .term hwa (.nil (by omega))

theorem comes_sound {g : Gr} {w : List Int} (hw : w.length ≤ 30) {f : Nat → Nat} {B : List (Nat → Nat)} (hB : RcB g w B) (hf : SndR g w f) {p : Pr} (hp : p ∈ g.prods) (hs : SyB p.right) :
    ∀ (r l : List Sy) (k : Nat) (m : Bool), p.right = l ++ r → (∀ c, k.testBit c = true → Der g w l 0 c) → k < 2 ^ 32 → (m = true → Ovr g w p.left 0) →
    (∀ c, (comesL w (f :: B) r k m).1.testBit c = true → Der g w p.right 0 c) ∧ ((comesL w (f :: B) r k m).2 = true → Ovr g w p.left 0)
  | [], l, k, m, he, hk, hk32, hm => by
    rw [List.append_nil] at he
    rw [comesL, he]
    exact ⟨hk, hm⟩
  | s :: r, l, k, m, he, hk, hk32, hm => by
    have hss := hs s (by rw [he]; simp)
    have h1 := step_sound hw hB hf hss hk hk32
    have hrl : (f :: B).length ≤ 31 := by rw [List.length_cons, hB.1]; omega
    refine comes_sound hw hB hf hp hs r (l ++ [s]) _ _ (by rw [he]; simp) h1 (stepF_lt hrl) fun hm' => ?_
    rw [Bool.or_eq_true, Bool.or_eq_true] at hm'
    rcases hm' with (hm' | hm') | hm'
    · exact hm hm'
    · rw [overB, Bool.and_eq_true, List.any_eq_true] at hm'
      obtain ⟨hn, a, ha, hab⟩ := hm'
      rw [Bool.and_eq_true] at hab
      obtain ⟨q1, q2⟩ := hss hn
      have ho := (rows_sound hB hf (List.mem_range.1 ha)).2 s.n.toNat hab.2
      rw [show ((s.n.toNat : Nat) : Int) = s.n by omega] at ho
      obtain ⟨b, n⟩ := s
      simp only at hn
      subst hn
      exact .non hp he (hk a hab.1) ho
    · exact .all hp (l := l ++ [s]) (m := r) (by rw [he]; simp) (by simp) (h1 _ hm')

theorem put_sound {g : Gr} {w : List Int} (hw : w.length ≤ 30) {f : Nat → Nat} {B : List (Nat → Nat)} (hB : RcB g w B) (hf : SndR g w f) {p : Pr} (hp : p ∈ g.prods) (hl : 0 ≤ p.left ∧ p.left < 24) (hs : SyB p.right) : SndR g w (putR f p.left.toNat (comesF w (f :: B) p)) := by
  have hlt : ((p.left.toNat : Nat) : Int) = p.left := by omega
  obtain ⟨h1, h2⟩ := comes_sound hw hB hf hp hs p.right [] 1 (decide (w.length = 0)) rfl (fun c hc => by
    have h2 : (2 ^ 0).testBit c = true := hc
    rw [Nat.testBit_two_pow] at h2
    have : 0 = c := by simpa using h2
    subst this
    exact .nil (by omega)) (by decide) (fun hm => .eps hp (by simpa using hm : w.length = 0).symm)
  have h1' : ∀ c, (comesF w (f :: B) p).1.testBit c = true → Der g w [⟨true, p.left⟩] 0 c := fun c hc => by
    have := h1 c hc
    exact .non hp this (.nil this.le.2)
  refine ⟨fun n hn c hc => ?_, fun n hc => ?_⟩
  · unfold putR at hc
    rw [if_neg (by omega)] at hc
    split at hc
    · rename_i e
      rw [Nat.testBit_or, Bool.or_eq_true] at hc
      rcases hc with hc | hc
      · rw [e]; exact hf.1 _ (by omega) c hc
      · rw [e, hlt]; exact h1' c hc
    · exact hf.1 n hn c hc
  · unfold putR at hc
    rw [if_pos rfl] at hc
    split at hc
    · rename_i e
      rw [Nat.testBit_or, Bool.or_eq_true] at hc
      rcases hc with hc | hc
      · exact hf.2 n hc
      · rw [Nat.testBit_two_pow] at hc
        have : p.left.toNat = n := by simpa using hc
        rw [← this, hlt]
        exact h2 e
    · exact hf.2 n hc

end Go.Av

