/-
  Layer 9, the plain law: the facts are closed, show themselves, and are the least. Conditions: none.
-/
import Derived.Test.YtiiogleijmcccaaC9
namespace Go.Av
open Go.Proofs
set_option linter.unusedSimpArgs false
set_option linter.unusedVariables false

theorem fits_iff {p : Pr} {l : List Fc} {r : Int} {terms : Bool} : fits p l r terms = true ↔ ∀ s ∈ p.right, if s.non then 1 ≤ rk l s.n ∧ rk l s.n < r else terms = true := by
  unfold fits
  simp only [Bool.not_eq_true', List.any_eq_false]
  refine forall_congr' fun s => forall_congr' fun hs => ?_
  unfold off
  cases s.non with
  | true => simp
  | false => simp

/-- Each fact shows. -/
def Sh (g : Gr) (terms : Bool) (l : List Fc) : Prop := ∀ (x : Nat) (f : Fc), l[x]? = some f → showAt g l terms x f = true

/-- What may get a rank below r has one. -/
def Cl (g : Gr) (terms : Bool) (l : List Fc) (r : Int) : Prop := 1 ≤ r → ∀ p ∈ g.prods, fits p l r terms = true → 1 ≤ rk l p.left ∧ rk l p.left ≤ r

theorem rk_get {l : List Fc} {x : Nat} {f : Fc} (h : l[x]? = some f) : rk l (x : Int) = f.1 := by
  simp [rk, List.getD_eq_getElem?_getD, h]

theorem rk_next {g : Gr} {terms : Bool} {rank : Int} {l : List Fc} {n : Int} : rk (nextL g terms rank l) n = rk l n ∨ (rk l n = 0 ∧ rk (nextL g terms rank l) n = rank ∧ n.toNat < l.length) := by
  unfold rk
  by_cases hx : n.toNat < l.length
  · have e : (nextL g terms rank l).getD n.toNat (0, 0) = nextFrom g l rank terms n.toNat 0 := by simp [nextL, hx, List.getD_eq_getElem?_getD]
    rw [e]
    unfold nextFrom
    split
    · rename_i h0
      split
      · exact .inr ⟨by unfold rk at h0; rwa [Int.toNat_natCast] at h0, rfl, hx⟩
      · exact .inl rfl
    · exact .inl rfl
  · have e : (nextL g terms rank l).getD n.toNat (0, 0) = (0, 0) := by
      rw [List.getD_eq_getElem?_getD, List.getElem?_eq_none (by rw [nextL_len]; omega)]; rfl
    have e2 : l.getD n.toNat (0, 0) = (0, 0) := by
      rw [List.getD_eq_getElem?_getD, List.getElem?_eq_none (by omega)]; rfl
    rw [e, e2]; exact .inl rfl

theorem fits_next {g : Gr} {terms : Bool} {rank r : Int} {l : List Fc} (h : r ≤ rank) {p : Pr} : fits p (nextL g terms rank l) r terms = fits p l r terms := by
  unfold fits
  congr 1
  refine congrArg (fun f => p.right.any f) (funext fun s => ?_)
  unfold off
  split
  · rcases rk_next (g := g) (terms := terms) (rank := rank) (l := l) (n := s.n) with e | ⟨e1, e2, _⟩
    · rw [e]
    · rw [e1, e2]; simp [h]
  · rfl

theorem next_left {g : Gr} {terms : Bool} {rank : Int} {l : List Fc} {p : Pr} {b : Int} (hp : p ∈ g.prods) (h0 : 0 ≤ p.left) (h1 : p.left < l.length) (hb : Bd l b) (hf : fits p l rank terms = true) : rk l p.left ≠ 0 ∨ rk (nextL g terms rank l) p.left = rank := by
  by_cases h : rk l p.left = 0
  · right
    have hx : p.left.toNat < l.length := by omega
    have e : (nextL g terms rank l).getD p.left.toNat (0, 0) = nextFrom g l rank terms p.left.toNat 0 := by simp [nextL, hx, List.getD_eq_getElem?_getD]
    have e2 : ((p.left.toNat : Nat) : Int) = p.left := by omega
    unfold rk
    rw [e]
    unfold nextFrom
    rw [e2, if_pos h, List.drop_zero]
    cases hq : g.prods.findIdx? (fun p' => decide (p'.left = p.left) && fits0 p' l rank terms) with
    | some q => rfl
    | none =>
      rw [List.findIdx?_eq_none_iff] at hq
      have := hq p hp
      rw [fits_fits0 hb, hf] at this
      simp at this
  · exact .inl h

theorem Sh_next {g : Gr} {terms : Bool} {rank : Int} {l : List Fc} (hr : 1 ≤ rank) (hb : Bd l (rank - 1)) (hs : Sh g terms l) : Sh g terms (nextL g terms rank l) := by
  intro x f hf
  have hx : x < l.length := by
    have := (List.getElem?_eq_some_iff.1 hf).1
    rwa [nextL_len] at this
  have e : f = nextFrom g l rank terms x 0 := by
    simp [nextL, hx] at hf
    exact hf.symm
  have hl : l[x]? = some (l.getD x (0, 0)) := by simp [hx]
  have hold := hs x _ hl
  have hbx := hb (x : Int)
  rw [rk_get hl] at hbx
  have keep : showAt g (nextL g terms rank l) terms x (l.getD x (0, 0)) = true := by
    unfold showAt at hold ⊢
    revert hold
    split
    · exact id
    · split
      · exact id
      · split
        · exact id
        · split
          · rw [fits_next (by omega)]; exact id
          · exact id
  unfold nextFrom at e
  split at e
  · rename_i h0
    split at e
    · rename_i q hq
      subst e
      rw [List.drop_zero] at hq
      obtain ⟨hq1, hq2, _⟩ := List.findIdx?_eq_some_iff_getElem.1 hq
      simp only [Bool.and_eq_true, decide_eq_true_eq] at hq2
      unfold showAt
      have h1 : g.prods[(((q + 0 : Nat) : Int)).toNat]? = some (g.prods[q]) := by simp [hq1]
      rw [if_neg (by simp only; omega), if_neg (by simp only; omega), if_neg (by simp only; omega)]
      simp only [h1]
      rw [fits_next (Int.le_refl _), ← fits_fits0 hb, hq2.2, hq2.1]
      simp
    · subst e; exact keep
  · subst e; exact keep

theorem loop_fin {g : Gr} {terms : Bool} : ∀ (m : Nat) (rank : Int) (l : List Fc), 1 ≤ rank → Bd l (rank - 1) → g.In l → zeros l ≤ m → Sh g terms l → (∀ r, r < rank → Cl g terms l r) →
    (loopR g terms (m + 1) rank l).length = l.length ∧ (∃ b, Bd (loopR g terms (m + 1) rank l) b) ∧ Sh g terms (loopR g terms (m + 1) rank l) ∧ ∀ r, Cl g terms (loopR g terms (m + 1) rank l) r := by
  have stop : ∀ (rank : Int) (l : List Fc), 1 ≤ rank → Bd l (rank - 1) → g.In l → (round g rank terms l).2 = false → (∀ r, r < rank → Cl g terms l r) → ∀ r, Cl g terms l r := by
    intro rank l hr hb hi h2 hc r h1r p hp hf
    have h3 : nextL g terms rank l = l := by
      rw [← round_next (by omega) hb hi]
      exact congrArg (·.1) (foldR_flag _ _ h2)
    by_cases hlt : r < rank
    · exact hc r hlt h1r p hp hf
    · have hf' : fits p l rank terms = true := by
        rw [fits_iff] at hf ⊢
        intro s hs
        have := hf s hs
        split
        · rename_i hn
          rw [if_pos hn] at this
          have := hb s.n
          omega
        · rename_i hn
          rw [if_neg hn] at this
          exact this
      have hbl := hb p.left
      rcases next_left hp (hi p hp).1.1 (hi p hp).1.2 hb hf' with h | h
      · omega
      · rw [h3] at h; omega
  intro m
  induction m with
  | zero =>
    intro rank l hr hb hi hz hs hc
    have h2 : (round g rank terms l).2 = false := by
      cases h : (round g rank terms l).2 with
      | false => rfl
      | true => have := round_zeros (by omega) hi h; omega
    have h3 : (round g rank terms l).1 = l := congrArg (·.1) (foldR_flag _ _ h2)
    rw [loopR, h2, if_neg (by simp), h3]
    exact ⟨rfl, ⟨_, hb⟩, hs, stop rank l hr hb hi h2 hc⟩
  | succ m ih =>
    intro rank l hr hb hi hz hs hc
    cases h : (round g rank terms l).2 with
    | false =>
      have h3 : (round g rank terms l).1 = l := congrArg (·.1) (foldR_flag _ _ h)
      rw [loopR, h, if_neg (by simp), h3]
      exact ⟨rfl, ⟨_, hb⟩, hs, stop rank l hr hb hi h hc⟩
    | true =>
      have hn := round_next (terms := terms) (rank := rank) (by omega) hb hi
      have hz' := round_zeros (by omega) hi h
      rw [loopR, h, if_pos rfl, hn]
      rw [hn] at hz'
      have hbn : Bd (nextL g terms rank l) rank := Bd_next hb (by omega) (by omega)
      have := ih (rank + 1) (nextL g terms rank l) (by omega) (by rw [show rank + 1 - 1 = rank by omega]; exact hbn) (hi.of (by rw [nextL_len])) (by omega) (Sh_next hr hb hs) (fun r hlt h1r p hp hf => by
        rw [fits_next (by omega)] at hf
        have hbl := hb p.left
        by_cases hlt2 : r < rank
        · have := hc r hlt2 h1r p hp hf
          rcases rk_next (g := g) (terms := terms) (rank := rank) (l := l) (n := p.left) with e | ⟨e1, e2, _⟩
          · rw [e]; exact this
          · omega
        · have : r = rank := by omega
          subst this
          rcases next_left hp (hi p hp).1.1 (hi p hp).1.2 hb hf with h | h
          · rcases rk_next (g := g) (terms := terms) (rank := r) (l := l) (n := p.left) with e | ⟨e1, e2, _⟩
            · rw [e]; omega
            · omega
          · omega)
      rw [nextL_len] at this
      exact this

theorem ranks_fin {g : Gr} {terms : Bool} (h : right g = true) : ((ranksL g terms).length : Int) = g.nons ∧ (∃ b, Bd (ranksL g terms) b) ∧ Sh g terms (ranksL g terms) ∧ ∀ r, Cl g terms (ranksL g terms) r := by
  obtain ⟨hn, _⟩ := right_in h
  unfold ranksL
  rw [if_pos h]
  have := loop_fin (g := g) (terms := terms) g.nons.toNat 1 (List.replicate g.nons.toNat (0, 0)) (by omega) Bd_zero (right_In h (by simp; omega)) (by unfold zeros; exact Nat.le_trans (List.countP_le_length) (by simp))
    (fun x f hf => by
      rw [List.getElem?_replicate] at hf
      split at hf
      · cases hf; simp [showAt]
      · cases hf)
    (fun r hr h1r => by omega)
  refine ⟨by rw [this.1]; simp; omega, this.2⟩

end Go.Av
