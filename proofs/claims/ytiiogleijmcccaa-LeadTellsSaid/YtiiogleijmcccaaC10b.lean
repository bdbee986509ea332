/-
  Layer 10, the plain law: the facts show, are closed, and are the least. Conditions: none.
-/
import Derived.Test.YtiiogleijmcccaaC10
namespace Go.Av
open Go.Proofs
set_option linter.unusedSimpArgs false
set_option linter.unusedVariables false

def Rch (g : Gr) (l : List Fc) : Prop := l.getD g.start.toNat (0, 0) = (1, 0) ∧ ∀ x f, l[x]? = some f → showR g l x f = true

/-- What stands in a production of who is reached below a rank is reached. -/
def RCl (g : Gr) (l : List Fc) (r : Int) : Prop := ∀ p ∈ g.prods, 1 ≤ rk l p.left → rk l p.left < r → ∀ s ∈ p.right, s.non = true → 1 ≤ rk l s.n ∧ rk l s.n ≤ rk l p.left + 1

theorem getD_next {g : Gr} {rank : Int} {l : List Fc} {x : Nat} (h : rk l x ≠ 0) : (nextRL g rank l).getD x (0, 0) = l.getD x (0, 0) := by
  by_cases hx : x < l.length
  · have e : (nextRL g rank l).getD x (0, 0) = nextX g rank l x := by simp [nextRL, hx, List.getD_eq_getElem?_getD]
    rw [e, nextX, if_neg h]
  · rw [List.getD_eq_getElem?_getD, List.getD_eq_getElem?_getD, List.getElem?_eq_none (by rw [nextRL_len]; omega), List.getElem?_eq_none (by omega)]

theorem rk_keep {g : Gr} {rank : Int} {l : List Fc} {n : Int} (h : rk l n ≠ 0) : rk (nextRL g rank l) n = rk l n := by
  rcases rk_nextRL (g := g) (rank := rank) (l := l) (n := n) with e | ⟨e, _⟩
  · exact e
  · exact (h e).elim

theorem stands_of {p : Pr} {s : Sy} (hs : s ∈ p.right) (hn : s.non = true) : stands p s.n = true := List.any_eq_true.2 ⟨s, hs, by simp [isN, hn]⟩

theorem next_hit {g : Gr} {rank : Int} {l : List Fc} {p : Pr} {n : Int} (hp : p ∈ g.prods) (hr : rk l p.left = rank) (h0 : 0 ≤ n) (h1 : n < l.length) (hst : stands p n = true) (hz : rk l n = 0) : rk (nextRL g rank l) n = rank + 1 := by
  have hx : n.toNat < l.length := by omega
  have e : (nextRL g rank l).getD n.toNat (0, 0) = nextX g rank l n.toNat := by simp [nextRL, hx, List.getD_eq_getElem?_getD]
  have hn : ((n.toNat : Nat) : Int) = n := by omega
  unfold rk
  rw [e, nextX, hn, if_pos hz]
  cases hq : g.prods.findIdx? (fun p => decide (rk l p.left = rank) && stands p n) with
  | some q => rfl
  | none =>
    rw [List.findIdx?_eq_none_iff] at hq
    have := hq p hp
    simp [hr, hst] at this

theorem Rch_next {g : Gr} {rank : Int} {l : List Fc} (hr : 1 ≤ rank) (hb : Bd l rank) (h : Rch g l) : Rch g (nextRL g rank l) := by
  obtain ⟨h1, h2⟩ := h
  have hst : rk l ((g.start.toNat : Nat) : Int) ≠ 0 := by unfold rk; rw [Int.toNat_natCast, h1]; decide
  refine ⟨by rw [getD_next hst]; exact h1, fun x f hf => ?_⟩
  have hx : x < l.length := by
    have := (List.getElem?_eq_some_iff.1 hf).1
    rwa [nextRL_len] at this
  have hl : l[x]? = some (l.getD x (0, 0)) := by simp [hx]
  have e : f = nextX g rank l x := by
    simp [nextRL, hx] at hf
    exact hf.symm
  have old := h2 x _ hl
  have keep : showR g (nextRL g rank l) x (l.getD x (0, 0)) = true := by
    unfold showR at old ⊢
    simp only [Bool.or_eq_true, Bool.and_eq_true] at old ⊢
    rcases old with old | ⟨o1, o2⟩
    · exact .inl old
    · refine .inr ⟨o1, ?_⟩
      revert o2
      split
      · rename_i p hp
        simp only [Bool.and_eq_true, decide_eq_true_eq]
        rintro ⟨⟨y1, y2⟩, y3⟩
        rw [rk_keep (by omega)]
        exact ⟨⟨y1, y2⟩, y3⟩
      · exact id
  unfold nextX at e
  split at e
  · rename_i h0
    split at e
    · rename_i q hq
      subst e
      obtain ⟨hq1, hq2, _⟩ := List.findIdx?_eq_some_iff_getElem.1 hq
      simp only [Bool.and_eq_true, decide_eq_true_eq] at hq2
      have hp : g.prods[((q : Int)).toNat]? = some (g.prods[q]) := by simp [hq1]
      unfold showR
      simp only [hp, Bool.or_eq_true, Bool.and_eq_true, decide_eq_true_eq]
      refine .inr ⟨⟨by omega, by omega⟩, ?_⟩
      rw [rk_keep (by omega)]
      exact ⟨⟨by omega, by omega⟩, hq2.2⟩
    · subst e; exact keep
  · subst e; exact keep

theorem RCl_next {g : Gr} {rank : Int} {l : List Fc} (hr : 1 ≤ rank) (hb : Bd l rank) (hi : g.In l) (h : RCl g l rank) : RCl g (nextRL g rank l) (rank + 1) := by
  intro p hp h1 h2 s hs hn
  have hpl : rk (nextRL g rank l) p.left = rk l p.left := by
    rcases rk_nextRL (g := g) (rank := rank) (l := l) (n := p.left) with e | ⟨_, e⟩
    · exact e
    · omega
  rw [hpl] at h1 h2 ⊢
  have hb1 := hb s.n
  have hb2 := hb p.left
  by_cases hlt : rk l p.left < rank
  · have := h p hp h1 hlt s hs hn
    rw [rk_keep (by omega)]
    exact this
  · have he : rk l p.left = rank := by omega
    have hin := (hi p hp).2 s hs hn
    by_cases hz : rk l s.n = 0
    · rw [next_hit hp he hin.1 hin.2 (stands_of hs hn) hz]; omega
    · rw [rk_keep hz]; omega

theorem reach_fin' {g : Gr} : ∀ (m : Nat) (rank : Int) (l : List Fc), 1 ≤ rank → Bd l rank → g.In l → zeros l ≤ m → Rch g l → RCl g l rank →
    (reachLoop g (m + 1) rank l).length = l.length ∧ (∃ b, Bd (reachLoop g (m + 1) rank l) b) ∧ Rch g (reachLoop g (m + 1) rank l) ∧ ∀ r, RCl g (reachLoop g (m + 1) rank l) r := by
  have stop : ∀ (rank : Int) (l : List Fc), 1 ≤ rank → Bd l rank → g.In l → (reachR g rank l).2 = false → RCl g l rank → ∀ r, RCl g l r := by
    intro rank l hr hb hi h2 hc r p hp h1 _ s hs hn
    have h3 : nextRL g rank l = l := by
      rw [← reachR_next hr hi]
      exact congrArg (·.1) (foldP_flag _ _ h2)
    have hbp := hb p.left
    have := RCl_next hr hb hi hc
    rw [h3] at this
    exact this p hp h1 (by omega) s hs hn
  intro m
  induction m with
  | zero =>
    intro rank l hr hb hi hz hs hc
    have h2 : (reachR g rank l).2 = false := by
      cases h : (reachR g rank l).2 with
      | false => rfl
      | true => have := reachR_zeros hr hi h; omega
    have h3 : (reachR g rank l).1 = l := congrArg (·.1) (foldP_flag _ _ h2)
    rw [reachLoop, h2, if_neg (by simp), h3]
    exact ⟨rfl, ⟨_, hb⟩, hs, stop rank l hr hb hi h2 hc⟩
  | succ m ih =>
    intro rank l hr hb hi hz hs hc
    cases h : (reachR g rank l).2 with
    | false =>
      have h3 : (reachR g rank l).1 = l := congrArg (·.1) (foldP_flag _ _ h)
      rw [reachLoop, h, if_neg (by simp), h3]
      exact ⟨rfl, ⟨_, hb⟩, hs, stop rank l hr hb hi h hc⟩
    | true =>
      have hn := reachR_next hr hi
      have hz' := reachR_zeros hr hi h
      rw [reachLoop, h, if_pos rfl, hn]
      rw [hn] at hz'
      have := ih (rank + 1) (nextRL g rank l) (by omega) (Bd_nextRL hr hb) (hi.of nextRL_len) (by omega) (Rch_next hr hb hs) (RCl_next hr hb hi hc)
      rw [nextRL_len] at this
      exact this

theorem reach_fin {g : Gr} (h : right g = true) : ((reachL g).length : Int) = g.nons ∧ (∃ b, Bd (reachL g) b) ∧ Rch g (reachL g) ∧ ∀ r, RCl g (reachL g) r := by
  obtain ⟨⟨hn, _⟩, _, ⟨hs1, hs2⟩, _⟩ := right_in h
  unfold reachL
  rw [if_pos h]
  have hst : (reachI g).getD g.start.toNat (0, 0) = (1, 0) := by
    unfold reachI
    rw [List.getD_eq_getElem?_getD, List.getElem?_set, if_pos rfl, if_pos (by rw [List.length_replicate]; omega)]
    rfl
  have := reach_fin' (g := g) g.nons.toNat 1 (reachI g) (by omega) Bd_I (right_In h (by rw [reachI_len]; omega)) (by have := zeros_I h; omega)
    ⟨hst, fun x f hf => by
      unfold showR
      by_cases e : x = g.start.toNat
      · have : (x : Int) = g.start := by omega
        simp [this]
      · unfold reachI at hf
        rw [List.getElem?_set, if_neg (Ne.symm e), List.getElem?_replicate] at hf
        split at hf
        · cases hf; simp
        · cases hf⟩
    (fun p hp h1 h2 => by omega)
  refine ⟨by rw [this.1, reachI_len]; omega, this.2⟩

theorem Bd.mono {l : List Fc} {b c : Int} (h : Bd l b) (k : b ≤ c) : Bd l c := fun n => ⟨(h n).1, by have := (h n).2; omega⟩

end Go.Av
