/-
  Layer 16, the document's answer: its rows, in plain terms. Conditions: none.
-/
import Derived.Test.YtiiogleijmcccaaY2
namespace Go.Av
open Go.Proofs
set_option maxRecDepth 100000
set_option linter.unusedSimpArgs false
set_option linter.unusedVariables false

/-- Bits, one behind the other. -/
def bitsN (F : Nat → Bool) : Nat → Nat
  | 0 => 0
  | k + 1 => if F k = true then bitsN F k + 2 ^ k else bitsN F k

theorem bitsN_lt {F : Nat → Bool} : ∀ k, bitsN F k < 2 ^ k
  | 0 => Nat.zero_lt_one
  | k + 1 => by
    have := bitsN_lt (F := F) k
    rw [bitsN, Nat.pow_succ]
    split <;> omega

theorem bitsN_lt32 {F : Nat → Bool} {k : Nat} (hk : k ≤ 30) : bitsN F k < 2 ^ 30 := Nat.lt_of_lt_of_le (bitsN_lt k) (Nat.pow_le_pow_right (by decide) hk)

theorem bitsN_bit {F : Nat → Bool} : ∀ k c, (bitsN F k).testBit c = (decide (c < k) && F c)
  | 0, c => by simp [bitsN]
  | k + 1, c => by
    have hl := bitsN_lt (F := F) k
    have ih := bitsN_bit (F := F) k c
    rw [bitsN]
    cases hF : F k
    · rw [if_neg (by simp), ih]
      by_cases h : c = k
      · subst h; simp [hF]
      · rw [show decide (c < k + 1) = decide (c < k) from decide_eq_decide.2 (by omega)]
    · rw [if_pos rfl, Nat.add_comm, show 2 ^ k + bitsN F k = 2 ^ k ||| bitsN F k from by simpa using Nat.two_pow_add_eq_or_of_lt hl 1, Nat.testBit_or, Nat.testBit_two_pow, ih]
      by_cases h : c = k
      · subst h; simp [hF]
      · rw [show decide (c < k + 1) = decide (c < k) from decide_eq_decide.2 (by omega), decide_eq_false (show ¬ k = c from fun e => h e.symm), Bool.false_or]

noncomputable def endW (g : Gr) (w : List Int) (a i : Nat) (c : Nat) : Bool := spanF g w i a (a + c)

noncomputable def ovrW (g : Gr) (w : List Int) (a : Nat) (n : Nat) : Bool := spanF (wildG g) w (g.nons.toNat + n) a w.length

/-- The row that the document tells. -/
noncomputable def rwW (g : Gr) (w : List Int) (a : Nat) : Nat → Nat := fun i => if i = 24 then bitsN (ovrW g w a) g.nons.toNat else if i < g.nons.toNat then bitsN (endW g w a i) (w.length + 1 - a) else 0

theorem der_left {g : Gr} (hr : right g = true) {w : List Int} {n : Int} {a c : Nat} (h : Der g w [⟨true, n⟩] a c) : 0 ≤ n ∧ n < g.nons := by
  obtain ⟨_, _, _, _, h5⟩ := right_in hr
  generalize he : ([⟨true, n⟩] : List Sy) = l at h
  cases h with
  | nil h => cases he
  | term h hl => simp at he
  | non hp hrr hl =>
    simp only [List.cons.injEq, Sy.mk.injEq, true_and] at he
    rw [he.1]
    exact (h5 _ hp).1

theorem ovr_left {g : Gr} (hr : right g = true) {w : List Int} {n : Int} {a : Nat} (h : Ovr g w n a) : 0 ≤ n ∧ n < g.nons := by
  obtain ⟨_, _, _, _, h5⟩ := right_in hr
  obtain ⟨p, hp, rfl⟩ := h.prod
  exact (h5 p hp).1

theorem rwW_rc {g : Gr} (hr : right g = true) {w : List Int} (hw : w.length ≤ 24) {a : Nat} (ha : a ≤ w.length) : Rc g (w.drop a) (rwW g w a) := by
  obtain ⟨⟨hn1, hn2⟩, _⟩ := right_in hr
  have hM : ((g.nons.toNat : Nat) : Int) = g.nons := by omega
  refine ⟨⟨fun i => ?_, fun i hi => ?_⟩, fun n hn c => ?_, fun n => ?_⟩
  · unfold rwW
    split
    · exact Nat.lt_trans (bitsN_lt32 (by omega)) (by decide)
    · split
      · exact Nat.lt_trans (bitsN_lt32 (by omega)) (by decide)
      · decide
  · unfold rwW
    rw [if_neg (by omega), if_neg (by omega)]
  · have e : (rwW g w a n).testBit c = true ↔ n < g.nons.toNat ∧ c < w.length + 1 - a ∧ Der g w [⟨true, (n : Int)⟩] a (a + c) := by
      unfold rwW
      rw [if_neg (by omega)]
      by_cases h : n < g.nons.toNat
      · rw [if_pos h, bitsN_bit, Bool.and_eq_true, decide_eq_true_eq, endW, spanF_iff]
        exact ⟨fun q => ⟨h, q⟩, fun q => q.2⟩
      · rw [if_neg h]
        simp [h]
    rw [e]
    refine ⟨fun q => ?_, fun q => ?_⟩
    · have := q.2.2.down (x := a) (Nat.le_refl _)
      rwa [Nat.sub_self, Nat.add_sub_cancel_left] at this
    · have h1 := q.up ha
      rw [Nat.add_zero] at h1
      have h2 := der_left hr h1
      have h3 := h1.le
      exact ⟨by omega, by omega, h1⟩
  · have e : (rwW g w a 24).testBit n = true ↔ n < g.nons.toNat ∧ Ovr g w (n : Int) a := by
      unfold rwW
      rw [if_pos rfl, bitsN_bit, Bool.and_eq_true, decide_eq_true_eq, ovrW, spanF_iff, show ((g.nons.toNat + n : Nat) : Int) = g.nons + (n : Int) by omega, wild_iff hr (by omega)]
    rw [e]
    refine ⟨fun q => ?_, fun q => ?_⟩
    · have := q.2.down (x := a) (Nat.le_refl _)
      rwa [Nat.sub_self] at this
    · have h1 := q.up ha
      rw [Nat.add_zero] at h1
      have h2 := ovr_left hr h1
      exact ⟨by omega, h1⟩

/-- All of them. -/
noncomputable def rwsW (g : Gr) (w : List Int) : List (Nat → Nat) := (List.range (w.length + 1)).map (rwW g w)

theorem rwsW_c {g : Gr} (hr : right g = true) {w : List Int} (hw : w.length ≤ 24) : RowsC g w (rwsW g w) := by
  refine ⟨by simp [rwsW], fun a ha => ?_⟩
  have ha' : a < w.length + 1 := by simpa [rwsW] using ha
  have : rowAt (rwsW g w) a = rwW g w a := by
    unfold rowAt rwsW
    rw [List.getD_eq_getElem?_getD, List.getElem?_map, List.getElem?_range ha']
    rfl
  rw [this]
  exact rwW_rc hr hw (by omega)

theorem wild_small {g : Gr} (hr : right g = true) : (wildG g).Small := by
  obtain ⟨_, _, _, hp60, h5⟩ := right_in hr
  have hl : ∀ l : List Pr, (∀ p ∈ l, p.right.length ≤ 8) → (l.flatMap (wildP g.nons)).length ≤ 9 * l.length := by
    intro l
    induction l with
    | nil => intro _; simp
    | cons p l ih =>
      intro h
      have h1 := h p (by simp)
      have h2 := ih fun q hq => h q (by simp [hq])
      rw [List.flatMap_cons, List.length_append, List.length_cons]
      have : (wildP g.nons p).length = p.right.length + 1 := by simp [wildP]
      omega
  have h6 := hl g.prods fun p hp => (h5 p hp).2.1
  refine ⟨?_, fun p hp => ?_⟩
  · show (g.prods ++ g.prods.flatMap (wildP g.nons)).length < _
    rw [List.length_append]
    omega
  · rcases wild_mem hp with hp | ⟨q, hq, _, e | ⟨k, s, hs, e⟩⟩
    · have := (h5 p hp).2.1
      omega
    · rw [e]; simp
    · rw [e, List.length_append, List.length_take, List.length_singleton]
      have := (h5 q hq).2.1
      omega

theorem wild_dom {g : Gr} (hr : right g = true) : (wildG g).Dom := by
  obtain ⟨⟨hn1, hn2⟩, _, _, hp60, h5⟩ := right_in hr
  show 1 ≤ 2 * g.nons ∧ 2 * g.nons < 2 ^ 30 ∧ ∀ p ∈ (wildG g).prods, ((0 ≤ p.left ∧ p.left < 2 * g.nons) ∧ p.right.length < 2 ^ 30) ∧ ∀ s ∈ p.right, s.non = true → 0 ≤ s.n ∧ s.n < 2 * g.nons
  refine ⟨by omega, by omega, fun p hp => ?_⟩
  rcases wild_mem hp with hp | ⟨q, hq, e1, e⟩
  · have h := h5 p hp
    have ho := own_right hr hp
    refine ⟨⟨by omega, by omega⟩, fun s hs hn => ?_⟩
    have := ho s hs hn
    omega
  · have h := h5 q hq
    have ho := own_right hr hq
    refine ⟨⟨by omega, ?_⟩, fun s hs hn => ?_⟩
    · rcases e with e | ⟨k, s, hs, e⟩
      · rw [e]; simp
      · rw [e, List.length_append, List.length_take, List.length_singleton]
        omega
    · rcases e with e | ⟨k, x, hx, e⟩
      · rw [e] at hs; cases hs
      · rw [e] at hs
        rcases List.mem_append.1 hs with hs | hs
        · have := ho s (List.take_subset k _ hs) hn
          omega
        · rw [List.mem_singleton.1 hs] at hn ⊢
          have hxn : x.non = true := by
            unfold bump at hn
            split at hn
            · assumption
            · exact hn
          have := ho x (List.mem_of_getElem? hx) hxn
          rw [bump, if_pos hxn]
          show 0 ≤ x.n + g.nons ∧ x.n + g.nons < _
          omega

end Go.Av

