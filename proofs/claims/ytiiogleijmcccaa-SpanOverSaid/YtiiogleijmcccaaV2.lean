/-
  Layer 13, the document's answer: shortest ways. Conditions: none.
-/
import Derived.Test.YtiiogleijmcccaaV1
namespace Go.Av
open Go.Proofs
set_option maxRecDepth 100000
set_option linter.unusedSimpArgs false
set_option linter.unusedVariables false

theorem Pth.split {L : List Lf} {b : Nat} {m : List Lf} : ∀ {a : Nat} {l : List Lf}, Pth L a b (l ++ m) → ∃ c, Pth L a c l ∧ Pth L c b m
  | a, [], h => ⟨a, rfl, h⟩
  | a, x :: l, h => by
    obtain ⟨h1, h2, h3⟩ := h
    obtain ⟨c, h4, h5⟩ := Pth.split h3
    exact ⟨c, ⟨h1, h2, h4⟩, h5⟩

theorem nodup_lt : ∀ (M : Nat) (l : List Nat), l.Nodup → (∀ x ∈ l, x < M) → l.length ≤ M
  | 0, l, _, h => by
    cases l with
    | nil => simp
    | cons x l => exact absurd (h x (by simp)) (by omega)
  | M + 1, l, hn, h => by
    have h1 := nodup_lt M (l.erase M) (hn.erase M) fun x hx => by
      have h2 := (hn.mem_erase_iff).1 hx
      have h3 := h x h2.2
      omega
    by_cases hm : M ∈ l
    · rw [List.length_erase_of_mem hm] at h1
      omega
    · rw [List.erase_of_not_mem hm] at h1
      omega

theorem Pth.short {L : List Lf} {M b : Nat} (hL : LIn M L) : ∀ (k : Nat) (l : List Lf) (a : Nat), l.length ≤ k → l ≠ [] → Pth L a b l → ∃ l', l' ≠ [] ∧ l'.length ≤ M ∧ Pth L a b l'
  | 0, l, a, hk, hne, _ => absurd (List.length_eq_zero_iff.1 (by omega)) hne
  | k + 1, l, a, hk, hne, hp => by
    by_cases hM : l.length ≤ M
    · exact ⟨l, hne, hM, hp⟩
    · have hin : ∀ x ∈ l.map Lf.frm, x < M := by
        intro x hx
        obtain ⟨y, hy, rfl⟩ := List.mem_map.1 hx
        have : ∀ (l : List Lf) (a : Nat), Pth L a b l → ∀ y ∈ l, y ∈ L := by
          intro l
          induction l with
          | nil => intro a _ y hy; cases hy
          | cons z l ih =>
            intro a h y hy
            rcases List.mem_cons.1 hy with rfl | hy
            · exact h.1
            · exact ih _ h.2.2 y hy
        exact (hL y (this l a hp y hy)).1
      have hnd : ¬ (l.map Lf.frm).Nodup := fun hn => by
        have := nodup_lt M _ hn hin
        rw [List.length_map] at this
        omega
      have : ∃ i j : Nat, i < j ∧ ∃ (x y : Lf), l[i]? = some x ∧ l[j]? = some y ∧ x.frm = y.frm := by
        refine Classical.byContradiction fun hc => hnd ?_
        refine List.pairwise_iff_getElem.2 fun i j hi hj hij he => hc ⟨i, j, hij, l[i]'(by simpa using hi), l[j]'(by simpa using hj), by simp, by simp, by simpa using he⟩
      obtain ⟨i, j, hij, x, y, hx, hy, he⟩ := this
      have hj : j < l.length := (List.getElem?_eq_some_iff.1 hy).1
      have hi : i < l.length := by omega
      have e1 : l.drop i = x :: l.drop (i + 1) := by
        rw [List.drop_eq_getElem_cons hi]; congr 1; exact (List.getElem_eq_iff hi).2 hx
      have e2 : l.drop j = y :: l.drop (j + 1) := by
        rw [List.drop_eq_getElem_cons hj]; congr 1; exact (List.getElem_eq_iff hj).2 hy
      have p1 := hp
      rw [← List.take_append_drop i l] at p1
      obtain ⟨c, q1, q2⟩ := p1.split
      rw [e1] at q2
      have p2 := hp
      rw [← List.take_append_drop j l] at p2
      obtain ⟨d, q3, q4⟩ := p2.split
      rw [e2] at q4
      have hcd : d = c := by rw [← q2.2.1, ← q4.2.1, he]
      subst hcd
      rw [← e2] at q4
      refine Pth.short hL k (l.take i ++ l.drop j) a ?_ ?_ (Pth.app q4 q1)
      · rw [List.length_append, List.length_take, List.length_drop]; omega
      · rw [e2]; simp

/-- The best of the ways so long at most. -/
def Bst (L : List Lf) (to r a : Nat) (l : List Lf) : Prop :=
  (l ≠ [] → l.length ≤ r ∧ Pth L a to l) ∧ ∀ l', l' ≠ [] → l'.length ≤ r → Pth L a to l' → l ≠ [] ∧ l.length ≤ l'.length

theorem bst_zero {L : List Lf} {to a : Nat} : Bst L to 0 a [] := ⟨fun h => absurd rfl h, fun l' h1 h2 _ => absurd (List.length_eq_zero_iff.1 (by omega)) h1⟩

theorem Bst.up {L : List Lf} {to r a : Nat} {l : List Lf} (h : Bst L to r a l) (hl : l ≠ []) : Bst L to (r + 1) a l :=
  ⟨fun _ => ⟨by have := (h.1 hl).1; omega, (h.1 hl).2⟩, fun l' h1 h2 h3 => ⟨hl, by
    by_cases hr : l'.length ≤ r
    · exact (h.2 l' h1 hr h3).2
    · have := (h.1 hl).1; omega⟩⟩

/-- A step that is taken in a round. -/
def Tk (ls : Nat → List Lf) (to r : Nat) (x : Lf) : Prop := (r = 0 ∧ x.to = to) ∨ (0 < r ∧ (ls x.to).length = r)

theorem Bst.new {L : List Lf} {to r a : Nat} {l : List Lf} (h : Bst L to r a []) (hl : l.length = r + 1) (hp : Pth L a to l) : Bst L to (r + 1) a l := by
  have hne : l ≠ [] := fun e => by rw [e] at hl; cases hl
  refine ⟨fun _ => ⟨by omega, hp⟩, fun l' h1 h2 h3 => ⟨hne, ?_⟩⟩
  by_cases hr : l'.length ≤ r
  · exact absurd rfl (h.2 l' h1 hr h3).1
  · omega

theorem Bst.none {L : List Lf} {M to r a : Nat} {ls : Nat → List Lf} (hL : LIn M L) (h : ∀ b, b < M → Bst L to r b (ls b)) (ha : a < M) (hl : ls a = []) (hx : ∀ x ∈ L, x.frm = a → ¬ Tk ls to r x) : Bst L to (r + 1) a [] := by
  refine ⟨fun e => absurd rfl e, fun l' h1 h2 h3 => ?_⟩
  have hb := h a ha
  rw [hl] at hb
  by_cases hr : l'.length ≤ r
  · exact hb.2 l' h1 hr h3
  exfalso
  cases l' with
  | nil => exact h1 rfl
  | cons x l'' =>
    obtain ⟨q1, q2, q3⟩ := h3
    rw [List.length_cons] at h2 hr
    refine hx x q1 q2 ?_
    by_cases h0 : r = 0
    · have : l'' = [] := List.length_eq_zero_iff.1 (by omega)
      subst this
      exact .inl ⟨h0, q3⟩
    · have hne : l'' ≠ [] := fun e => by rw [e] at hr; simp at hr; omega
      have hbx := h x.to (hL x q1).2
      obtain ⟨w1, w2⟩ := hbx.2 l'' hne (by omega) q3
      obtain ⟨w3, w4⟩ := hbx.1 w1
      refine .inr ⟨by omega, ?_⟩
      by_cases hlt : (ls x.to).length = r
      · exact hlt
      · exfalso
        exact (hb.2 (x :: ls x.to) (by simp) (by rw [List.length_cons]; omega) ⟨q1, q2, w4⟩).1 rfl

theorem bst_cyc {g : Gr} (hr : right g = true) {a : Nat} {l : List Lf} (h : Bst (stepsG g) a g.nons.toNat a l) : decide (0 < l.length) = cycB g a := by
  cases hc : cycB g a
  · refine decide_eq_false fun h0 => ?_
    have := cycB_iff.2 ⟨l, List.length_pos_iff.1 h0, (h.1 (List.length_pos_iff.1 h0)).2⟩
    rw [hc] at this
    cases this
  · obtain ⟨l1, q1, q2⟩ := cycB_iff.1 hc
    obtain ⟨l2, q3, q4, q5⟩ := Pth.short (steps_in hr) l1.length l1 a (Nat.le_refl _) q1 q2
    exact decide_eq_true (List.length_pos_iff.2 (h.2 l2 q3 q4 q5).1)

end Go.Av

