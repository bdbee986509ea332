/-
  Layer 9, the plain law: who shows a rank has no smaller one than the facts told; what derives nothing, or a word. Conditions: none.
-/
import Derived.Test.YtiiogleijmcccaaC9b
namespace Go.Av
open Go.Proofs
set_option linter.unusedSimpArgs false
set_option linter.unusedVariables false

theorem Bd.pos {l : List Fc} {b : Int} (h : Bd l b) (n : Int) : 0 ≤ rk l n := (h n).1

theorem ranks_shows {g : Gr} {terms : Bool} (h : right g = true) : shows g (ranksL g terms) terms = true := by
  obtain ⟨h1, _, h3, _⟩ := ranks_fin (terms := terms) h
  exact shows_true h h1 fun j f _ hf => h3 j f hf

theorem shows_sh {g : Gr} {terms : Bool} {l : List Fc} (h : shows g l terms = true) : right g = true ∧ (l.length : Int) = g.nons ∧ Sh g terms l := by
  simp only [shows, Bool.and_eq_true, decide_eq_true_eq, List.all_eq_true] at h
  exact ⟨h.1.1, h.1.2, fun x f hf => h.2 (f, x) (List.mk_mem_zipIdx_iff_getElem?.2 hf)⟩

/-- A fact with a rank: its production. -/
theorem Sh.prod {g : Gr} {terms : Bool} {l : List Fc} (h : Sh g terms l) {n : Int} (h0 : 0 ≤ n) (hr : rk l n ≠ 0) : 1 ≤ rk l n ∧ ∃ p ∈ g.prods, p.left = n ∧ fits p l (rk l n) terms = true := by
  have hn : n.toNat < l.length := by
    rcases Nat.lt_or_ge n.toNat l.length with h | h
    · exact h
    · exfalso; apply hr; unfold rk; rw [List.getD_eq_getElem?_getD, List.getElem?_eq_none h]; rfl
  have hl : l[n.toNat]? = some (l.getD n.toNat (0, 0)) := by simp [hn]
  have hs := h _ _ hl
  have e : rk l n = (l.getD n.toNat (0, 0)).1 := rfl
  unfold showAt at hs
  rw [← e] at hs
  split at hs
  · cases hs
  · rename_i h1
    split at hs
    · cases hs
    · split at hs
      · rename_i p hp
        simp only [Bool.and_eq_true, decide_eq_true_eq] at hs
        refine ⟨by omega, p, List.mem_of_getElem? hp, ?_, hs.2⟩
        omega
      · cases hs

theorem least {g : Gr} {terms : Bool} {l : List Fc} (hl : shows g l terms = true) : ∀ (k : Nat) (n : Int), 0 ≤ n → rk l n ≠ 0 → (rk l n).toNat ≤ k → 1 ≤ rk (ranksL g terms) n ∧ rk (ranksL g terms) n ≤ rk l n
  | 0, n, h0, hr, hk => by
    obtain ⟨_, _, hs⟩ := shows_sh hl
    have := (hs.prod h0 hr).1
    omega
  | k + 1, n, h0, hr, hk => by
    obtain ⟨hg, _, hs⟩ := shows_sh hl
    obtain ⟨h1, p, hp, hpl, hf⟩ := hs.prod h0 hr
    obtain ⟨_, _, _, hcl⟩ := ranks_fin (terms := terms) hg
    obtain ⟨_, _, _, _, hin⟩ := right_in hg
    rw [← hpl]
    rw [← hpl] at hf h1 hk
    refine hcl _ h1 p hp ?_
    rw [fits_iff] at hf ⊢
    intro s hsm
    have h2 := hf s hsm
    split
    · rename_i hn
      rw [if_pos hn] at h2
      have h3 := (hin p hp).2.2 s hsm
      have := least hl k s.n h3.1 (by omega) (by omega)
      omega
    · rename_i hn
      rw [if_neg hn] at h2
      exact h2

/-- A part of a word, from a place to a place, comes of a row of symbols. -/
inductive Der (g : Gr) (w : List Int) : List Sy → Nat → Nat → Prop
  | nil {a : Nat} (h : a ≤ w.length) : Der g w [] a a
  | term {t : Int} {l : List Sy} {a c : Nat} (h : w[a]? = some t) (hl : Der g w l (a + 1) c) : Der g w (⟨false, t⟩ :: l) a c
  | non {p : Pr} {l : List Sy} {a b c : Nat} (hp : p ∈ g.prods) (hr : Der g w p.right a b) (hl : Der g w l b c) : Der g w (⟨true, p.left⟩ :: l) a c

theorem Der.le {g : Gr} {w : List Int} {l : List Sy} {a b : Nat} (h : Der g w l a b) : a ≤ b ∧ b ≤ w.length := by
  induction h with
  | nil h => exact ⟨Nat.le_refl _, h⟩
  | term h hl ih => exact ⟨by omega, ih.2⟩
  | non hp hr hl ih1 ih2 => exact ⟨by omega, ih2.2⟩

theorem Der.append {g : Gr} {w : List Int} {l m : List Sy} {a b c : Nat} (h : Der g w l a b) (k : Der g w m b c) : Der g w (l ++ m) a c := by
  induction h with
  | nil h => exact k
  | term h hl ih => exact .term h (ih k)
  | non hp hr hl ih1 ih2 => exact .non hp hr (ih2 k)

theorem Der.split {g : Gr} {w : List Int} {m : List Sy} {a c : Nat} {x : List Sy} (h : Der g w x a c) : ∀ l : List Sy, x = l ++ m → ∃ b, Der g w l a b ∧ Der g w m b c := by
  induction h with
  | @nil a h =>
    intro l e
    obtain ⟨e1, e2⟩ := List.append_eq_nil_iff.1 e.symm
    subst e1; subst e2
    exact ⟨a, .nil h, .nil h⟩
  | @term t l0 a c h hl ih =>
    intro l e
    cases l with
    | nil => simp at e; subst e; exact ⟨a, .nil (by have := hl.le; omega), .term h hl⟩
    | cons s l => simp at e; obtain ⟨rfl, e⟩ := e; obtain ⟨b, h1, h2⟩ := ih l e; exact ⟨b, .term h h1, h2⟩
  | @non p l0 a b c hp hr hl ih1 ih2 =>
    intro l e
    cases l with
    | nil => simp at e; subst e; exact ⟨a, .nil (by have := hr.le; have := hl.le; omega), .non hp hr hl⟩
    | cons s l => simp at e; obtain ⟨rfl, e⟩ := e; obtain ⟨b', h1, h2⟩ := ih2 l e; exact ⟨b', .non hp hr h1, h2⟩

/-- Nothing comes of who has a rank without terminals. -/
theorem null_der {g : Gr} (hg : right g = true) {w : List Int} {a : Nat} (ha : a ≤ w.length) : ∀ (k : Nat) (n : Int), 0 ≤ n → rk (ranksL g false) n ≠ 0 → (rk (ranksL g false) n).toNat ≤ k → Der g w [⟨true, n⟩] a a := by
  intro k
  induction k with
  | zero =>
    intro n h0 hr hk
    have := ((ranks_fin (terms := false) hg).2.2.1.prod h0 hr).1
    omega
  | succ k ih =>
    intro n h0 hr hk
    obtain ⟨h1, p, hp, hpl, hf⟩ := (ranks_fin (terms := false) hg).2.2.1.prod h0 hr
    obtain ⟨_, _, _, _, hin⟩ := right_in hg
    subst hpl
    refine .non hp ?_ (.nil ha)
    rw [fits_iff] at hf
    have hin' := (hin p hp).2.2
    generalize p.right = l at hf hin'
    induction l with
    | nil => exact .nil ha
    | cons s l ihl =>
      have h2 := hf s (by simp)
      have h3 := hin' s (by simp)
      obtain ⟨sn, n⟩ := s
      cases sn with
      | false =>
        have h2' : false = true := h2
        cases h2'
      | true =>
        have h2 : 1 ≤ rk (ranksL g false) n ∧ rk (ranksL g false) n < _ := h2
        have h3 : 0 ≤ n ∧ n < g.nons := h3
        have h4 := ih n h3.1 (by omega) (by omega)
        exact h4.append (ihl (fun s hs => hf s (by simp [hs])) (fun s hs => hin' s (by simp [hs])))

/-- What comes, of symbols, without a token: all have ranks. -/
theorem der_rank {g : Gr} (hg : right g = true) {terms : Bool} {w : List Int} {l : List Sy} {a c : Nat} (h : Der g w l a c) (ht : terms = true ∨ a = c) : ∀ s ∈ l, if s.non then 1 ≤ rk (ranksL g terms) s.n else terms = true := by
  obtain ⟨_, ⟨b, hb⟩, _, hcl⟩ := ranks_fin (terms := terms) hg
  induction h with
  | nil h => intro s hs; cases hs
  | @term t l a c h hl ih =>
    have hle := hl.le
    rcases ht with ht | ht
    · intro s hs
      rcases List.mem_cons.1 hs with rfl | hs
      · simpa using ht
      · exact ih (.inl ht) s hs
    · omega
  | @non p l a b' c hp hr hl ih1 ih2 =>
    have hle1 := hr.le
    have hle2 := hl.le
    intro s hs
    rcases List.mem_cons.1 hs with rfl | hs
    · simp only [if_true]
      have h1 := ih1 (ht.imp id fun e => by omega)
      refine (hcl (max (b + 1) 1) (by omega) p hp ?_).1
      rw [fits_iff]
      intro s hs
      have h2 := h1 s hs
      split
      · rename_i hn
        rw [if_pos hn] at h2
        have := (hb s.n).2
        omega
      · rename_i hn
        rw [if_neg hn] at h2
        exact h2
    · exact ih2 (ht.imp id fun e => by omega) s hs

end Go.Av
