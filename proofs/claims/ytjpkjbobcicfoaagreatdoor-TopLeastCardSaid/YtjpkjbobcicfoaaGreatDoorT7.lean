/-
  Texts T2, T3, T4, T5, T6, T7 of this work, one behind the other. Conditions: none.
-/
import Derived.Test.YtjpkjbobcicfoaaGreatDoorG1
import Derived.Test.YtjpkjbobcicfoaaGreatDoorX4
set_option linter.unusedSimpArgs false
set_option linter.unusedVariables false
namespace Go.Av
open Go.Proofs
structure Pt where
  s : Sy
  node : Int
  fin : Bool
def ePt (p : Pt) : List AV := [.bool p.s.non, .int .i64 p.s.n, .int .i64 p.node, .bool p.fin]
attribute [go_sem] ePt
abbrev Nd := Int × List Int
structure Rs where
  todo : List Pt
  word : List Int
  nodes : List Nd
def extN (nd : Int) (ns : List Nd) (pl : List Int) : List Nd := if 0 ≤ nd then ns.modify nd.toNat (fun x => (x.1, x.2 ++ pl)) else ns
def hereF (w : List Int) (ns : List Nd) (p : Pt) : List Nd := extN p.node ns [(w.length : Int)]
def okP (g : Gr) (x n : Int) : Option Pr := if 0 ≤ x then (g.prods[x.toNat]?).bind fun p => if p.left = n then some p else none else none
def strip : List Sy → List Int → List Sy × List Int
  | [], w => ([], w)
  | s :: r, w => if s.non then (s :: r, w) else strip r (w ++ [s.n])
def repF (g : Gr) : List Int → List Sy → List Int → Int × List Int
  | [], r, w => match strip r w with
    | ([], w') => (0, w')
    | (_ :: _, _) => (3, [])
  | x :: l, r, w => match strip r w with
    | ([], _) => (2, [])
    | (s :: r', w') => match okP g x s.n with
      | some p => repF g l (p.right ++ r') w'
      | none => (2, [])
inductive Bld (g : Gr) (l : List Int) : List Sy → Nat → Nat → List Int → List Nd → Nat → Nat → Prop
  | nil {i at'} : Bld g l [] i at' [] [] i at'
  | term {n r i at' pl ns i' at2} (h : Bld g l r i (at' + 1) pl ns i' at2) : Bld g l (⟨false, n⟩ :: r) i at' ((at' : Int) :: pl) ns i' at2
  | non {n r i at' j p pl1 ns1 i1 at1 pl ns i' at2} (hj : l[i]? = some j) (hp : okP g j n = some p) (h1 : Bld g l p.right (i + 1) at' pl1 ns1 i1 at1) (h2 : Bld g l r i1 at1 pl ns i' at2) :
      Bld g l (⟨true, n⟩ :: r) i at' ((at' : Int) :: pl) ((j, pl1 ++ [(at1 : Int)]) :: ns1 ++ ns) i' at2
theorem Bld.split {g : Gr} {l : List Int} : ∀ (a : List Sy) {b : List Sy} {i at' : Nat} {pl : List Int} {ns : List Nd} {i' at2 : Nat}, Bld g l (a ++ b) i at' pl ns i' at2 →
    ∃ pl1 ns1 i1 at1 pl2 ns2, Bld g l a i at' pl1 ns1 i1 at1 ∧ Bld g l b i1 at1 pl2 ns2 i' at2 ∧ pl = pl1 ++ pl2 ∧ ns = ns1 ++ ns2
  | [], b, i, at', pl, ns, i', at2, h => ⟨[], [], i, at', pl, ns, .nil, h, rfl, rfl⟩
  | ⟨sn, n⟩ :: a, b, i, at', pl, ns, i', at2, h => by
    rw [List.cons_append] at h
    cases h with
    | term h =>
      obtain ⟨pl1, ns1, i1, at1, pl2, ns2, h1, h2, rfl, rfl⟩ := Bld.split a h
      exact ⟨_, _, _, _, _, _, .term h1, h2, rfl, rfl⟩
    | non hj hp h h' =>
      obtain ⟨pl1, ns1, i1, at1, pl2, ns2, h1, h2, rfl, rfl⟩ := Bld.split a h'
      exact ⟨_, _, _, _, _, _, .non hj hp h h1, h2, rfl, by simp⟩
theorem extN_len {nd : Int} {ns : List Nd} {pl : List Int} : (extN nd ns pl).length = ns.length := by
  unfold extN; split <;> simp
theorem strip_non : ∀ {r : List Sy} {w : List Int} {s : Sy} {r' : List Sy} {w' : List Int}, strip r w = (s :: r', w') → s.non = true
  | [], w, s, r', w', h => by cases h
  | x :: r, w, s, r', w', h => by
    rw [strip] at h
    split at h
    · rename_i hx; cases h; exact hx
    · exact strip_non h
theorem okP_some {g : Gr} {x n : Int} {p : Pr} (h : okP g x n = some p) : 0 ≤ x ∧ g.prods[x.toNat]? = some p ∧ p.left = n := by
  unfold okP at h
  split at h
  · rename_i hx
    cases hq : g.prods[x.toNat]? with
    | none => rw [hq] at h; cases h
    | some q =>
      rw [hq] at h
      simp only [Option.bind_some] at h
      split at h
      · rename_i e; cases h; exact ⟨hx, rfl, e⟩
      · cases h
  · cases h
theorem strip_der {g : Gr} {W : List Int} : ∀ {r : List Sy} {w : List Int} {r' : List Sy} {w' : List Int}, strip r w = (r', w') → (∃ u, W = w' ++ u) → Der g W r' w'.length W.length → (∃ u, W = w ++ u) ∧ Der g W r w.length W.length
  | [], w, r', w', h, hu, hd => by cases h; exact ⟨hu, hd⟩
  | ⟨sn, n⟩ :: r, w, r', w', h, hu, hd => by
    rw [strip] at h
    cases sn with
    | true =>
      simp only [if_true] at h
      cases h; exact ⟨hu, hd⟩
    | false =>
      simp only [Bool.false_eq_true, if_false] at h
      obtain ⟨⟨u, e⟩, h'⟩ := strip_der h hu hd
      refine ⟨⟨n :: u, by rw [e]; simp⟩, ?_⟩
      rw [List.length_append] at h'
      exact .term (by rw [e]; simp) h'
theorem rep_der {g : Gr} : ∀ (l : List Int) (r : List Sy) (w W : List Int), repF g l r w = (0, W) → (∃ u, W = w ++ u) ∧ Der g W r w.length W.length
  | [], r, w, W, h => by
    rw [repF] at h
    rcases hs : strip r w with ⟨r', w'⟩
    rw [hs] at h
    cases r' with
    | cons s r' => simp at h
    | nil =>
      simp only [Prod.mk.injEq, true_and] at h
      subst h
      exact strip_der hs ⟨[], by simp⟩ (.nil (Nat.le_refl _))
  | x :: l, r, w, W, h => by
    rw [repF] at h
    rcases hs : strip r w with ⟨r', w'⟩
    rw [hs] at h
    cases r' with
    | nil => simp at h
    | cons s r' =>
      obtain ⟨sn, n⟩ := s
      have hsn : sn = true := strip_non hs
      subst hsn
      simp only at h
      cases hp : okP g x n with
      | none => rw [hp] at h; simp at h
      | some p =>
        rw [hp] at h
        simp only at h
        obtain ⟨hu, hd⟩ := rep_der l _ w' W h
        obtain ⟨b, d1, d2⟩ := hd.split p.right rfl
        obtain ⟨_, hm, rfl⟩ := okP_some hp
        exact strip_der hs hu (.non (List.mem_of_getElem? hm) d1 d2)
def replayL (g : Gr) (l : List Int) : Int × List Int := if right g then (if 2000 < l.length then (5, []) else repF g l [⟨true, g.start⟩] []) else (1, [])
def lessL : List Int → List Int → Bool
  | _, [] => false
  | [], _ :: _ => true
  | a :: xs, b :: bs => if a = b then lessL xs bs else decide (a < b)
end Go.Av
namespace Go.Av
open Go.Proofs
set_option maxRecDepth 100000
inductive Ovr (g : Gr) (w : List Int) : Int → Nat → Prop
  | eps {p : Pr} {a : Nat} (hp : p ∈ g.prods) (ha : a = w.length) : Ovr g w p.left a
  | all {p : Pr} {l m : List Sy} {a : Nat} (hp : p ∈ g.prods) (hr : p.right = l ++ m) (hl : l ≠ []) (hd : Der g w l a w.length) : Ovr g w p.left a
  | non {p : Pr} {l m : List Sy} {n : Int} {a b : Nat} (hp : p ∈ g.prods) (hr : p.right = l ++ ⟨true, n⟩ :: m) (hd : Der g w l a b) (ho : Ovr g w n b) : Ovr g w p.left a
theorem Ovr.le {g : Gr} {w : List Int} {n : Int} {a : Nat} (h : Ovr g w n a) : a ≤ w.length := by
  induction h with
  | eps hp ha => omega
  | all hp hr hl hd => exact hd.le.1
  | non hp hr hd ho ih => have := hd.le; omega
theorem Ovr.prod {g : Gr} {w : List Int} {n : Int} {a : Nat} (h : Ovr g w n a) : ∃ p ∈ g.prods, p.left = n := by
  cases h with
  | eps hp ha => exact ⟨_, hp, rfl⟩
  | all hp hr hl hd => exact ⟨_, hp, rfl⟩
  | non hp hr hd ho => exact ⟨_, hp, rfl⟩
theorem Der.up {g : Gr} {w : List Int} {x : Nat} (hx : x ≤ w.length) {l : List Sy} {a c : Nat} (h : Der g (w.drop x) l a c) : Der g w l (x + a) (x + c) := by
  induction h with
  | nil h => exact .nil (by rw [List.length_drop] at h; omega)
  | term h hl ih => exact .term (by rw [List.getElem?_drop] at h; exact h) ih
  | non hp hr hl ih1 ih2 => exact .non hp ih1 ih2
theorem Der.down {g : Gr} {w : List Int} {x : Nat} {l : List Sy} {y z : Nat} (h : Der g w l y z) : x ≤ y → Der g (w.drop x) l (y - x) (z - x) := by
  induction h with
  | nil h => intro hx; exact .nil (by rw [List.length_drop]; omega)
  | @term t l a c h hl ih =>
    intro hx
    refine .term (by rw [List.getElem?_drop, show x + (a - x) = a by omega]; exact h) ?_
    have := ih (by omega)
    rwa [show a + 1 - x = a - x + 1 by omega] at this
  | non hp hr hl ih1 ih2 =>
    intro hx
    have := hr.le
    exact .non hp (ih1 hx) (ih2 (by omega))
theorem Ovr.up {g : Gr} {w : List Int} {x : Nat} (hx : x ≤ w.length) {n : Int} {a : Nat} (h : Ovr g (w.drop x) n a) : Ovr g w n (x + a) := by
  induction h with
  | eps hp ha => exact .eps hp (by rw [ha, List.length_drop]; omega)
  | all hp hr hl hd =>
    have := hd.up hx
    rw [List.length_drop, show x + (w.length - x) = w.length by omega] at this
    exact .all hp hr hl this
  | non hp hr hd ho ih => exact .non hp hr (hd.up hx) ih
theorem Ovr.down {g : Gr} {w : List Int} {x : Nat} {n : Int} {y : Nat} (h : Ovr g w n y) : x ≤ y → Ovr g (w.drop x) n (y - x) := by
  induction h with
  | eps hp ha => intro hx; exact .eps hp (by rw [ha, List.length_drop])
  | all hp hr hl hd =>
    intro hx
    have := hd.down hx
    rw [← List.length_drop] at this
    exact .all hp hr hl this
  | non hp hr hd ho ih =>
    intro hx
    have := hd.le
    exact .non hp hr (hd.down hx) (ih (by omega))
def Rc (g : Gr) (w : List Int) (f : Nat → Nat) : Prop := RwOk f ∧ (∀ n, n < 24 → ∀ c, (f n).testBit c = true ↔ Der g w [⟨true, (n : Int)⟩] 0 c) ∧ ∀ n, (f 24).testBit n = true ↔ Ovr g w (n : Int) 0
theorem Rc.uniq {g : Gr} {w : List Int} {f f' : Nat → Nat} (h : Rc g w f) (h' : Rc g w f') : f = f' := by
  funext i
  by_cases h1 : i < 24
  · refine Nat.eq_of_testBit_eq fun c => Bool.eq_iff_iff.2 ?_
    rw [h.2.1 i h1 c, h'.2.1 i h1 c]
  · by_cases h2 : i = 24
    · subst h2
      refine Nat.eq_of_testBit_eq fun c => Bool.eq_iff_iff.2 ?_
      rw [h.2.2 c, h'.2.2 c]
    · rw [h.1.2 i (by omega), h'.1.2 i (by omega)]
def RcB (g : Gr) (w : List Int) (B : List (Nat → Nat)) : Prop := B.length = w.length ∧ ∀ a, a < w.length → Rc g (w.drop (a + 1)) (rowAt B a)
def SndR (g : Gr) (w : List Int) (f : Nat → Nat) : Prop := (∀ n, n < 24 → ∀ c, (f n).testBit c = true → Der g w [⟨true, (n : Int)⟩] 0 c) ∧ ∀ n, (f 24).testBit n = true → Ovr g w (n : Int) 0
theorem row_zero {f : Nat → Nat} {B : List (Nat → Nat)} : rowAt (f :: B) 0 = f := rfl
theorem row_succ {f : Nat → Nat} {B : List (Nat → Nat)} {a : Nat} : rowAt (f :: B) (a + 1) = rowAt B a := rfl
theorem rows_sound {g : Gr} {w : List Int} {f : Nat → Nat} {B : List (Nat → Nat)} (hB : RcB g w B) (hf : SndR g w f) {a : Nat} (ha : a < (f :: B).length) :
    (∀ n, n < 24 → ∀ c, (rowAt (f :: B) a n).testBit c = true → Der g w [⟨true, (n : Int)⟩] a (a + c)) ∧ ∀ n, (rowAt (f :: B) a 24).testBit n = true → Ovr g w (n : Int) a := by
  cases a with
  | zero =>
    rw [row_zero]
    exact ⟨fun n hn c hc => by rw [Nat.zero_add]; exact hf.1 n hn c hc, hf.2⟩
  | succ a =>
    rw [row_succ]
    rw [List.length_cons, hB.1] at ha
    obtain ⟨_, h1, h2⟩ := hB.2 a (by omega)
    refine ⟨fun n hn c hc => ?_, fun n hn => ?_⟩
    · have := ((h1 n hn c).1 hc).up (x := a + 1) (by omega)
      rwa [Nat.add_zero] at this
    · have := ((h2 n).1 hn).up (x := a + 1) (by omega)
      rwa [Nat.add_zero] at this
theorem rows_comp {g : Gr} {w : List Int} {f : Nat → Nat} {B : List (Nat → Nat)} (hB : RcB g w B) {a : Nat} (ha : a < w.length) :
    (∀ n : Nat, n < 24 → ∀ c, Der g w [⟨true, (n : Int)⟩] (a + 1) c → (rowAt (f :: B) (a + 1) n).testBit (c - (a + 1)) = true) ∧ ∀ n : Nat, Ovr g w (n : Int) (a + 1) → (rowAt (f :: B) (a + 1) 24).testBit n = true := by
  rw [row_succ]
  obtain ⟨_, h1, h2⟩ := hB.2 a ha
  refine ⟨fun n hn c hc => ?_, fun n hn => ?_⟩
  · refine (h1 n hn _).2 ?_
    have := hc.down (x := a + 1) (Nat.le_refl _)
    rwa [Nat.sub_self] at this
  · refine (h2 n).2 ?_
    have := hn.down (x := a + 1) (Nat.le_refl _)
    rwa [Nat.sub_self] at this
def SyB (l : List Sy) : Prop := ∀ s ∈ l, s.non = true → 0 ≤ s.n ∧ s.n < 24
theorem step_sound {g : Gr} {w : List Int} (hw : w.length ≤ 30) {f : Nat → Nat} {B : List (Nat → Nat)} (hB : RcB g w B) (hf : SndR g w f) {s : Sy} (hs : s.non = true → 0 ≤ s.n ∧ s.n < 24) {l : List Sy} {k : Nat} (hk : ∀ c, k.testBit c = true → Der g w l 0 c) (hk32 : k < 2 ^ 32) :
    ∀ c, (stepF s k w (f :: B)).testBit c = true → Der g w (l ++ [s]) 0 c := by
  intro c hc
  have hlt : stepF s k w (f :: B) < 2 ^ 32 := stepF_lt (by rw [List.length_cons, hB.1]; omega)
  have hc32 : c < 32 := by
    by_cases h : c < 32
    · exact h
    · rw [Nat.testBit_lt_two_pow (Nat.lt_of_lt_of_le hlt (Nat.pow_le_pow_right (by decide) (by omega)))] at hc
      cases hc
  obtain ⟨a, h1, h2, h3⟩ := (stepN_bit hc32 _).1 hc
  refine (hk a h2).append ?_
  rcases h3 with ⟨hn, hac, hb⟩ | ⟨hn, hwa, e⟩
  · obtain ⟨q1, q2⟩ := hs hn
    have := (rows_sound hB hf h1).1 s.n.toNat (by omega) _ hb
    rw [show a + (c - a) = c by omega, show ((s.n.toNat : Nat) : Int) = s.n by omega] at this
    obtain ⟨b, n⟩ := s
    simp only at hn
    subst hn
    exact this
  · obtain ⟨b, n⟩ := s
    simp only at hn
    subst hn; subst e
    have := (List.getElem?_eq_some_iff.1 hwa).1
    exact .term hwa (.nil (by omega))
theorem comes_sound {g : Gr} {w : List Int} (hw : w.length ≤ 30) {f : Nat → Nat} {B : List (Nat → Nat)} (hB : RcB g w B) (hf : SndR g w f) {p : Pr} (hp : p ∈ g.prods) (hs : SyB p.right) :
    ∀ (r l : List Sy) (k : Nat) (m : Bool), p.right = l ++ r → (∀ c, k.testBit c = true → Der g w l 0 c) → k < 2 ^ 32 → (m = true → Ovr g w p.left 0) →
    (∀ c, (comesL w (f :: B) r k m).1.testBit c = true → Der g w p.right 0 c) ∧ ((comesL w (f :: B) r k m).2 = true → Ovr g w p.left 0)
  | [], l, k, m, he, hk, hk32, hm => by
    rw [List.append_nil] at he
    rw [comesL, he]
    exact ⟨hk, hm⟩
  | s :: r, l, k, m, he, hk, hk32, hm => by
    have hss := hs s (by rw [he]; simp)
    have h1 := step_sound hw hB hf hss hk hk32
    have hrl : (f :: B).length ≤ 31 := by rw [List.length_cons, hB.1]; omega
    refine comes_sound hw hB hf hp hs r (l ++ [s]) _ _ (by rw [he]; simp) h1 (stepF_lt hrl) fun hm' => ?_
    rw [Bool.or_eq_true, Bool.or_eq_true] at hm'
    rcases hm' with (hm' | hm') | hm'
    · exact hm hm'
    · rw [overB, Bool.and_eq_true, List.any_eq_true] at hm'
      obtain ⟨hn, a, ha, hab⟩ := hm'
      rw [Bool.and_eq_true] at hab
      obtain ⟨q1, q2⟩ := hss hn
      have ho := (rows_sound hB hf (List.mem_range.1 ha)).2 s.n.toNat hab.2
      rw [show ((s.n.toNat : Nat) : Int) = s.n by omega] at ho
      obtain ⟨b, n⟩ := s
      simp only at hn
      subst hn
      exact .non hp he (hk a hab.1) ho
    · exact .all hp (l := l ++ [s]) (m := r) (by rw [he]; simp) (by simp) (h1 _ hm')
theorem put_sound {g : Gr} {w : List Int} (hw : w.length ≤ 30) {f : Nat → Nat} {B : List (Nat → Nat)} (hB : RcB g w B) (hf : SndR g w f) {p : Pr} (hp : p ∈ g.prods) (hl : 0 ≤ p.left ∧ p.left < 24) (hs : SyB p.right) : SndR g w (putR f p.left.toNat (comesF w (f :: B) p)) := by
  have hlt : ((p.left.toNat : Nat) : Int) = p.left := by omega
  obtain ⟨h1, h2⟩ := comes_sound hw hB hf hp hs p.right [] 1 (decide (w.length = 0)) rfl (fun c hc => by
    have h2 : (2 ^ 0).testBit c = true := hc
    rw [Nat.testBit_two_pow] at h2
    have : 0 = c := by simpa using h2
    subst this
    exact .nil (by omega)) (by decide) (fun hm => .eps hp (by simpa using hm : w.length = 0).symm)
  have h1' : ∀ c, (comesF w (f :: B) p).1.testBit c = true → Der g w [⟨true, p.left⟩] 0 c := fun c hc => by
    have := h1 c hc
    exact .non hp this (.nil this.le.2)
  refine ⟨fun n hn c hc => ?_, fun n hc => ?_⟩
  · unfold putR at hc
    rw [if_neg (by omega)] at hc
    split at hc
    · rename_i e
      rw [Nat.testBit_or, Bool.or_eq_true] at hc
      rcases hc with hc | hc
      · rw [e]; exact hf.1 _ (by omega) c hc
      · rw [e, hlt]; exact h1' c hc
    · exact hf.1 n hn c hc
  · unfold putR at hc
    rw [if_pos rfl] at hc
    split at hc
    · rename_i e
      rw [Nat.testBit_or, Bool.or_eq_true] at hc
      rcases hc with hc | hc
      · exact hf.2 n hc
      · rw [Nat.testBit_two_pow] at hc
        have : p.left.toNat = n := by simpa using hc
        rw [← this, hlt]
        exact h2 e
    · exact hf.2 n hc
end Go.Av
namespace Go.Av
open Go.Proofs
set_option maxRecDepth 100000
theorem comesL_app {w : List Int} {rows : List (Nat → Nat)} {m : List Sy} : ∀ (l : List Sy) (k : Nat) (mo : Bool), comesL w rows (l ++ m) k mo = comesL w rows m (comesL w rows l k mo).1 (comesL w rows l k mo).2
  | [], k, mo => rfl
  | s :: l, k, mo => by
    rw [List.cons_append, comesL, comesL]
    exact comesL_app l _ _
theorem comesL_more {w : List Int} {rows : List (Nat → Nat)} : ∀ (l : List Sy) (k : Nat), (comesL w rows l k true).2 = true
  | [], k => rfl
  | s :: l, k => by
    rw [comesL]
    exact comesL_more l _
theorem comesL_end {w : List Int} {rows : List (Nat → Nat)} : ∀ (l : List Sy) (k : Nat) (mo : Bool), l ≠ [] → (comesL w rows l k mo).1.testBit w.length = true → (comesL w rows l k mo).2 = true
  | [], k, mo, h, _ => absurd rfl h
  | [s], k, mo, _, hb => by
    rw [comesL, comesL] at hb ⊢
    simp only at hb ⊢
    rw [hb, Bool.or_true]
  | s :: s' :: l, k, mo, _, hb => by
    rw [comesL] at hb ⊢
    exact comesL_end (s' :: l) _ _ (by simp) hb
theorem right_syB {g : Gr} (hr : right g = true) {p : Pr} (hp : p ∈ g.prods) : SyB p.right := by
  obtain ⟨⟨hn1, hn2⟩, _, _, hp60, h5⟩ := right_in hr
  intro s hs hn
  have := (h5 p hp).2.2 s hs
  rw [if_pos hn] at this
  omega
theorem right_left {g : Gr} (hr : right g = true) {p : Pr} (hp : p ∈ g.prods) : 0 ≤ p.left ∧ p.left < 24 := by
  obtain ⟨⟨hn1, hn2⟩, _, _, hp60, h5⟩ := right_in hr
  have := (h5 p hp).1
  omega
theorem closed_bits {w : List Int} {f : Nat → Nat} {B : List (Nat → Nat)} {p : Pr} (hl : 0 ≤ p.left ∧ p.left < 24) (h : putR f p.left.toNat (comesF w (f :: B) p) = f) :
    (∀ c, (comesF w (f :: B) p).1.testBit c = true → (f p.left.toNat).testBit c = true) ∧ ((comesF w (f :: B) p).2 = true → (f 24).testBit p.left.toNat = true) := by
  refine ⟨fun c hc => ?_, fun hm => ?_⟩
  · have h1 := congrFun h p.left.toNat
    unfold putR at h1
    rw [if_neg (by omega), if_pos rfl] at h1
    rw [← h1, Nat.testBit_or, hc, Bool.or_true]
  · have h1 := congrFun h 24
    unfold putR at h1
    rw [if_pos rfl, if_pos hm] at h1
    rw [← h1, Nat.testBit_or, Nat.testBit_two_pow]
    simp
section
variable {g : Gr} (hr : right g = true) {w : List Int} (hw : w.length ≤ 30) {f : Nat → Nat} {B : List (Nat → Nat)} (hB : RcB g w B) (hcl : ∀ p, p ∈ g.prods → putR f p.left.toNat (comesF w (f :: B) p) = f)
include hr hw hB hcl
theorem comp_der {l : List Sy} {a c : Nat} (h : Der g w l a c) : ∀ (k : Nat) (mo : Bool), k.testBit a = true → (comesL w (f :: B) l k mo).1.testBit c = true := by
  have hlen : (f :: B).length = w.length + 1 := by rw [List.length_cons, hB.1]
  induction h with
  | nil h => intro k mo hk; exact hk
  | @term t l a c h hl ih =>
    intro k mo hk
    rw [comesL]
    refine ih _ _ ?_
    have hal := (List.getElem?_eq_some_iff.1 h).1
    exact (stepN_bit (show a + 1 < 32 by omega) _).2 ⟨a, by omega, hk, .inr ⟨rfl, h, rfl⟩⟩
  | @non p l a b c hp hrr hl ih1 ih2 =>
    intro k mo hk
    rw [comesL]
    refine ih2 _ _ ?_
    obtain ⟨q1, q2⟩ := right_left hr hp
    have hab := hrr.le
    refine (stepN_bit (show b < 32 by omega) _).2 ⟨a, by omega, hk, .inl ⟨rfl, hab.1, ?_⟩⟩
    show (rowAt (f :: B) a p.left.toNat).testBit (b - a) = true
    cases a with
    | zero =>
      rw [row_zero]
      exact (closed_bits (right_left hr hp) (hcl p hp)).1 _ (ih1 1 _ rfl)
    | succ a =>
      refine (rows_comp hB (by omega)).1 p.left.toNat (by omega) b ?_
      rw [show ((p.left.toNat : Nat) : Int) = p.left by omega]
      exact .non hp hrr (.nil hab.2)
theorem comp_ovr {n : Int} {a : Nat} (h : Ovr g w n a) : (rowAt (f :: B) a 24).testBit n.toNat = true := by
  have hlen : (f :: B).length = w.length + 1 := by rw [List.length_cons, hB.1]
  have late : ∀ {n : Int} {a : Nat}, Ovr g w n (a + 1) → (rowAt (f :: B) (a + 1) 24).testBit n.toNat = true := fun {n a} h => by
    obtain ⟨p, hp, rfl⟩ := h.prod
    obtain ⟨q1, q2⟩ := right_left hr hp
    refine (rows_comp hB (by have := h.le; omega)).2 p.left.toNat ?_
    rw [show ((p.left.toNat : Nat) : Int) = p.left by omega]
    exact h
  induction h with
  | @eps p a hp ha =>
    cases a with
    | succ a => exact late (.eps hp ha)
    | zero =>
      refine (closed_bits (right_left hr hp) (hcl p hp)).2 ?_
      rw [comesF, show decide (w.length = 0) = true from decide_eq_true ha.symm]
      exact comesL_more _ _
  | @all p l m a hp hrr hl hd =>
    cases a with
    | succ a => exact late (.all hp hrr hl hd)
    | zero =>
      refine (closed_bits (right_left hr hp) (hcl p hp)).2 ?_
      rw [comesF, hrr, comesL_app, comesL_end l _ _ hl (comp_der hr hw hB hcl hd 1 _ rfl)]
      exact comesL_more _ _
  | @non p l m n a b hp hrr hd ho ih =>
    cases a with
    | succ a => exact late (.non hp hrr hd ho)
    | zero =>
      refine (closed_bits (right_left hr hp) (hcl p hp)).2 ?_
      rw [comesF, hrr, comesL_app, comesL]
      have hk := comp_der hr hw hB hcl hd 1 (decide (w.length = 0)) rfl
      have hov : overB ⟨true, n⟩ (comesL w (f :: B) l 1 (decide (w.length = 0))).1 (f :: B) = true := by
        rw [overB, Bool.true_and, List.any_eq_true]
        exact ⟨b, List.mem_range.2 (by have := hd.le; omega), by rw [hk, Bool.true_and]; exact ih⟩
      rw [hov, Bool.or_true, Bool.true_or]
      exact comesL_more _ _
end
theorem row_rc {g : Gr} (hr : right g = true) {w : List Int} (hw : w.length ≤ 30) {f : Nat → Nat} {B : List (Nat → Nat)} (hB : RcB g w B) (hcl : ∀ p, p ∈ g.prods → putR f p.left.toNat (comesF w (f :: B) p) = f) (hok : RwOk f) (hs : SndR g w f) : Rc g w f := by
  refine ⟨hok, fun n hn c => ⟨hs.1 n hn c, fun hd => ?_⟩, fun n => ⟨hs.2 n, fun ho => ?_⟩⟩
  · have h1 := comp_der hr hw hB hcl hd 1 false rfl
    rw [comesL, comesL] at h1
    have hc := hd.le.2
    obtain ⟨a, h2, h3, h4⟩ := (stepN_bit (show c < 32 by omega) _).1 h1
    have h0 : (2 ^ 0).testBit a = true := h3
    rw [Nat.testBit_two_pow] at h0
    have : 0 = a := by simpa using h0
    subst this
    rcases h4 with ⟨_, _, h5⟩ | ⟨h5, _⟩
    · exact h5
    · cases h5
  · have := comp_ovr hr hw hB hcl ho
    exact this
theorem fz79' (g : Gr) (hg : g.Small) (hr : right g = true) (w : List Int) (hw : w.length ≤ 30) (B : List (Nat → Nat)) (hB : RcB g w B) : ∃ f, PF pg Tq 79 [.agg (eGr g), .ro (w.map eIn), .ro (B.map eRw)] (.agg (eRw f)) ∧ Rc g w f := by
  have hrw : RwIn B := fun j i => by
    by_cases hj : j < w.length
    · exact (hB.2 j hj).1.1 i
    · have : B[j]? = none := List.getElem?_eq_none (by rw [hB.1]; omega)
      unfold rowAt
      rw [List.getD_eq_getElem?_getD, this]
      exact (by decide : 0 < 2 ^ 32)
  obtain ⟨f, h1, h2, h3, h4⟩ := fz79 g hg hr w hw B (by rw [hB.1]; exact hw) hrw (SndR g w) ⟨fun n hn c hc => by simp at hc, fun n hc => by simp at hc⟩ fun f p hp hf => put_sound hw hB hf hp (right_left hr hp) (right_syB hr hp)
  exact ⟨f, h1, row_rc hr hw hB h4 h2 h3⟩
end Go.Av
namespace Go.Av
open Go.Proofs
set_option maxRecDepth 100000
def RowsC (g : Gr) (w : List Int) (l : List (Nat → Nat)) : Prop := l.length = w.length + 1 ∧ ∀ a, a < l.length → Rc g (w.drop a) (rowAt l a)
theorem RowsC.uniq {g : Gr} {w : List Int} {l l' : List (Nat → Nat)} (h : RowsC g w l) (h' : RowsC g w l') : l = l' := by
  refine List.ext_getElem? fun a => ?_
  by_cases ha : a < l.length
  · rw [row_get ha, row_get (by rw [h'.1, ← h.1]; exact ha), (h.2 a ha).uniq (h'.2 a (by rw [h'.1, ← h.1]; exact ha))]
  · rw [List.getElem?_eq_none (by omega), List.getElem?_eq_none (by rw [h'.1, ← h.1]; omega)]
theorem fit_right {g : Gr} {w : List Int} (h : fitG g w = true) : right g = true := by
  rw [fitG, Bool.and_eq_true] at h
  cases hr : right g
  · have h1 := h.1
    rw [checkL, hr] at h1
    cases h1
  · rfl
theorem fit_len {g : Gr} {w : List Int} (h : fitG g w = true) : w.length ≤ 24 := by
  rw [fitG, fitsW, rightW, Bool.and_eq_true, Bool.and_eq_true, Bool.and_eq_true] at h
  have := of_decide_eq_true h.2.1.1
  omega
end Go.Av
namespace Go.Av
open Go.Proofs
set_option maxRecDepth 100000
end Go.Av
namespace Go.Av
open Go.Proofs
set_option maxRecDepth 100000
abbrev Co := Nat → Option Nat
def CoExt (co co' : Co) (n : Nat) : Prop := ∀ x, x < n → co' x = co x
theorem CoExt.rfl' (co : Co) (n : Nat) : CoExt co co n := fun _ _ => rfl
theorem CoExt.trans {co co' co2 : Co} {n n' : Nat} (h : CoExt co co' n) (k : CoExt co' co2 n') (hn : n ≤ n') : CoExt co co2 n := fun x hx => (k x (by omega)).trans (h x hx)
def setc (co : Co) (b c : Nat) : Co := fun x => if x = b then some c else co x
theorem setc_ext {co : Co} {b c n : Nat} (h : n ≤ b) : CoExt co (setc co b c) n := fun x hx => by unfold setc; rw [if_neg (by omega)]
def SlC {α : Type} (e : α → List AV) (sz c : Nat) (co : Co) (h : Heap) (n : Nat) (v : AV) (l : List α) : Prop := (l = [] ∧ v = .nils) ∨ ∃ b, v = .sl b 0 l.length sz ∧ b < n ∧ co b = some c ∧ h b = some (.cells (l.map e))
def StC {α : Type} (e : α → List AV) (sz c : Nat) (co : Co) (h : Heap) (n : Nat) (v : AV) (l : List α) : Prop := (l = [] ∧ v = .nils) ∨ ∃ b es, v = .sl b 0 l.length sz ∧ b < n ∧ co b = some c ∧ h b = some (.cells es) ∧ l.length ≤ es.length ∧ es.take l.length = l.reverse.map e
def Frm (c : Nat) (co co' : Co) (h h' : Heap) (n n' : Nat) : Prop := n ≤ n' ∧ CoExt co co' n ∧ ∀ x, x < n → co x = some c → h' x = h x
theorem SlC.next {α : Type} {e : α → List AV} {sz c : Nat} {co co' : Co} {h h' : Heap} {n n' : Nat} {v : AV} {l : List α} (s : SlC e sz c co h n v l) (f : Frm c co co' h h' n n') : SlC e sz c co' h' n' v l := by
  obtain ⟨f1, f2, f3⟩ := f
  rcases s with s | ⟨b, s1, s2, s3, s4⟩
  · exact .inl s
  · exact .inr ⟨b, s1, by omega, (f2 b s2).trans s3, (f3 b s2 s3).trans s4⟩
theorem StC.next {α : Type} {e : α → List AV} {sz c : Nat} {co co' : Co} {h h' : Heap} {n n' : Nat} {v : AV} {l : List α} (s : StC e sz c co h n v l) (f : Frm c co co' h h' n n') : StC e sz c co' h' n' v l := by
  obtain ⟨f1, f2, f3⟩ := f
  rcases s with s | ⟨b, es, s1, s2, s3, s4, s5⟩
  · exact .inl s
  · exact .inr ⟨b, es, s1, by omega, (f2 b s2).trans s3, (f3 b s2 s3).trans s4, s5⟩
def rowN (nodes : List Nd) (av : Nat → AV) : List (List AV) := nodes.zipIdx.map fun x => [.int .i64 x.1.1, av x.2]
structure Mac (bR : Nat) (g : Gr) (co : Co) (h : Heap) (n : Nat) (r : Rs) (tv wv nv : AV) (av : Nat → AV) : Prop where
  root : bR < n ∧ co bR = some 0 ∧ h bR = some (.cells [[.int .i64 g.terms, .int .i64 g.nons, .int .i64 g.start, .ro (g.prods.map ePr), tv, wv, nv]])
  todo : StC ePt 4 1 co h n tv r.todo
  word : SlC eIn 1 2 co h n wv r.word
  nodes : (r.nodes = [] ∧ nv = .nils) ∨ ∃ b, nv = .sl b 0 r.nodes.length 2 ∧ b < n ∧ co b = some 3 ∧ h b = some (.cells (rowN r.nodes av))
  ats : ∀ (i : Nat) (x : Nd), r.nodes[i]? = some x → SlC eIn 1 (4 + i) co h n (av i) x.2
theorem Mac.next {bR : Nat} {g : Gr} {co co' : Co} {h h' : Heap} {n n' : Nat} {r : Rs} {tv wv nv : AV} {av : Nat → AV} (m : Mac bR g co h n r tv wv nv av) (hn : n ≤ n') (hc : CoExt co co' n) (hh : ∀ x, x < n → co x ≠ none → h' x = h x) : Mac bR g co' h' n' r tv wv nv av := by
  obtain ⟨⟨m1, m2, m3⟩, m4, m5, m6, m7⟩ := m
  have f : ∀ c, Frm c co co' h h' n n' := fun c => ⟨hn, hc, fun x hx e => hh x hx (by rw [e]; simp)⟩
  refine ⟨⟨by omega, (hc _ m1).trans m2, (hh _ m1 (by rw [m2]; simp)).trans m3⟩, m4.next (f _), m5.next (f _), ?_, fun i x hx => (m7 i x hx).next (f _)⟩
  rcases m6 with m6 | ⟨b, k1, k2, k3, k4⟩
  · exact .inl m6
  · exact .inr ⟨b, k1, by omega, (hc b k2).trans k3, (hh b k2 (by rw [k3]; simp)).trans k4⟩
end Go.Av
namespace Go.Av
open Go.Proofs
set_option maxRecDepth 100000
end Go.Av
namespace Go.Av
open Go.Proofs
set_option maxRecDepth 100000
structure Rs.Fine (r : Rs) (B : Nat) : Prop where
  sum : r.todo.length + r.word.length ≤ B
  nodes : r.nodes.length ≤ B
  ats : ∀ x ∈ r.nodes, x.2.length + r.todo.length ≤ B
  parts : ∀ p ∈ r.todo, p.node < r.nodes.length
theorem hereF_len {w : List Int} {ns : List Nd} {p : Pt} : (hereF w ns p).length = ns.length := extN_len
theorem hereF_mem {w : List Int} {ns : List Nd} {p : Pt} {B : Nat} (h : ∀ x ∈ ns, x.2.length + 1 ≤ B) : ∀ x ∈ hereF w ns p, x.2.length ≤ B := by
  intro x hx
  unfold hereF extN at hx
  split at hx
  · obtain ⟨i, hi⟩ := List.mem_iff_getElem?.1 hx
    rw [List.getElem?_modify] at hi
    cases hn : ns[i]? with
    | none => rw [hn] at hi; simp at hi
    | some y =>
      rw [hn] at hi
      have := h y (List.mem_of_getElem? hn)
      simp only [Option.map_eq_map, Option.map_some, Option.some.injEq] at hi
      subst hi
      split
      · simp; omega
      · omega
  · have := h x hx; omega
theorem Rs.Fine.drop {r : Rs} {B : Nat} {p : Pt} {t : List Pt} (h : r.Fine B) (ht : r.todo = p :: t) : (⟨t, r.word, hereF r.word r.nodes p⟩ : Rs).Fine B ∧ ((⟨t, r.word ++ [p.s.n], hereF r.word r.nodes p⟩ : Rs)).Fine B := by
  obtain ⟨h1, h2, h3, h4⟩ := h
  rw [ht] at h1 h3 h4
  simp only [List.length_cons] at h1 h3
  have a : ∀ x ∈ hereF r.word r.nodes p, x.2.length + t.length ≤ B := fun x hx => by
    by_cases hB : t.length ≤ B
    · have := hereF_mem (B := B - t.length) (fun x hx => by have := h3 x hx; omega) x hx
      omega
    · omega
  exact ⟨⟨by simp; omega, by rw [hereF_len]; exact h2, a, fun q hq => by rw [hereF_len]; exact h4 q (by simp [hq])⟩, ⟨by simp; omega, by rw [hereF_len]; exact h2, a, fun q hq => by rw [hereF_len]; exact h4 q (by simp [hq])⟩⟩
def cut (co : Co) (n : Nat) : Co := fun x => if x < n then co x else none
theorem cut_lt {co : Co} {n x : Nat} (h : x < n) : cut co n x = co x := if_pos h
def Bs (co : Co) (h : Heap) (n : Nat) (co' : Co) (h' : Heap) (n' : Nat) : Prop := n ≤ n' ∧ CoExt co co' n ∧ ∀ x, x < n → co x = none → h' x = h x
theorem Bs.start {co : Co} {h h' : Heap} {n n' : Nat} (hn : n ≤ n') (hh : ∀ x, x < n → h' x = h x) : Bs co h n (cut co n) h' n' := ⟨hn, fun x hx => cut_lt hx, fun x hx _ => hh x hx⟩
end Go.Av
namespace Go.Av
open Go.Proofs
set_option maxRecDepth 100000
end Go.Av
namespace Go.Av
open Go.Proofs
set_option maxRecDepth 100000
end Go.Av
namespace Go.Av
open Go.Proofs
set_option maxRecDepth 100000
theorem SlC.frz {α : Type} {e : α → List AV} {sz c : Nat} {co : Co} {fr : Bool} {h : Heap} {n d : Nat} {v : AV} {l : List α} (s : SlC e sz c co h n v l) (he : ∀ x ∈ l, rfs fr d h (e x) = some (e x)) : rf fr (d + 2) h v = some (.ro (l.map e)) := by
  rcases s with ⟨rfl, rfl⟩ | ⟨b, rfl, _, _, s⟩
  · simp [rf]
  · exact rf_sla s (by simp) (rfe_map he)
theorem rf_tup2 {fr : Bool} {d : Nat} {h : Heap} {v v' : AV} {k : IntKind} {n : Int} (hv : rf fr d h v = some v') (hd : 0 < d) : rf fr (d + 2) h (.tup [v, .int k n]) = some (.tup [v', .int k n]) := by
  obtain ⟨d, rfl⟩ : ∃ e, d = e + 1 := ⟨d - 1, by omega⟩
  have h1 : rfs fr (d + 2) h [v, .int k n] = some [v', .int k n] := rfs_cons hv (rfs_cons rfl rfs_nil)
  rw [rf, h1]
end Go.Av
