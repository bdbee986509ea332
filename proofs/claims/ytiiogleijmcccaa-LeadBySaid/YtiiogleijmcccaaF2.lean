/-
  Layer 11, package first: the sets of nonterminals. Conditions: none.
-/
import Derived.Test.YtiiogleijmcccaaF1
import Derived.Test.YtiiogleijmcccaaR1
namespace Go.Av
open Go.Proofs
set_option maxRecDepth 100000
set_option linter.unusedSimpArgs false
set_option linter.unusedVariables false

def again (l : Nat) (K : Fr → Heap → Nat → Prop) (Q : AEx → Fr → Heap → Nat → Prop) : AEx → Fr → Heap → Nat → Prop
  | .goto l', t, h, n => if l' = l then K t h n else False
  | e, t, h, n => Q e t h n

attribute [go_sem] again

/-- A loop by a label and a goto. -/
theorem W.again {P : Program} {Θ : Tab} {N : Nat} {t : Fr} {h : Heap} {n : Nat} {Q : AEx → Fr → Heap → Nat → Prop} {body c : Code} {l : Nat} (hl : findLabel body l = some (.seq .skip c)) (I : Nat → Fr → Heap → Nat → Prop) (k : Nat) (hI : I k t h n)
    (hs : ∀ k t h n, I k t h n → W P Θ N c t h n (Av.again l (fun t' h' n' => ∃ k', k' < k ∧ I k' t' h' n') Q)) : W P Θ N (.seq (.label l) c) t h n (jump P Θ N body Q) := by
  have conv : ∀ (K : Fr → Heap → Nat → Prop) (t : Fr) (h : Heap) (n : Nat), (∀ t' h' n', K t' h' n' → WS P Θ N body (.seq .skip c) t' h' n' Q) → W P Θ N c t h n (Av.again l K Q) → W P Θ N c t h n (jump P Θ N body Q) := by
    intro K t h n hK hw
    refine W.mono hw fun e t' h' n' hq => ?_
    cases e with
    | goto l' =>
      simp only [Av.again] at hq
      split at hq
      · rename_i hll; subst hll; exact ⟨_, hl, hK _ _ _ hq⟩
      · exact hq.elim
    | normal => exact hq
    | exit i => exact hq
    | ret => exact hq
  have ws : ∀ k t h n, I k t h n → WS P Θ N body (.seq .skip c) t h n Q := by
    intro k
    induction k using Nat.strongRecOn with
    | _ k ih =>
      intro t h n hI
      refine WS.code (W.seq (W.skip ?_))
      exact conv _ _ _ _ (fun t' h' n' ⟨k', hk, hI'⟩ => ih k' hk t' h' n' hI') (hs k t h n hI)
  refine W.seq (W.label ?_)
  exact conv _ _ _ _ (fun t' h' n' ⟨k', hk, hI'⟩ => ws k' t' h' n' hI') (hs k t h n hI)

def addF (null : List Fc) (sets : List Nat) (p : Pr) : Nat := sets.getD p.left.toNat 0 ||| (rowW sets null 0 p.right).1

def passF (null : List Fc) (sets : List Nat) : List Pr → Option (List Nat)
  | [] => none
  | p :: ps => if addF null sets p = sets.getD p.left.toNat 0 then passF null sets ps else some (sets.set p.left.toNat (addF null sets p))

def fixF (g : Gr) (null : List Fc) : Nat → List Nat → List Nat
  | 0, s => s
  | f + 1, s => match passF null s g.prods with
    | some s' => fixF g null f s'
    | none => s

def firstL (g : Gr) : List Nat := if right g then fixF g (ranksL g false) (32 * g.nons.toNat + 1) (List.replicate g.nons.toNat 0) else []

theorem rowW_lt {sets : List Nat} {null : List Fc} (hs : Lt32 sets) : ∀ (l : List Sy) (out : Nat), out < 2 ^ 32 → SyIn sets.length l → (rowW sets null out l).1 < 2 ^ 32
  | [], out, h, _ => h
  | s :: l, out, h, hd => by
    rw [rowW]
    have hlt := Nat.or_lt_two_pow h (getD_lt hs s.n.toNat)
    split
    · split
      · exact hlt
      · exact rowW_lt hs l _ hlt fun y hy => hd y (by simp [hy])
    · rename_i hn
      have := hd s (by simp)
      rw [if_neg hn] at this
      exact Nat.or_lt_two_pow h (Nat.pow_lt_pow_right (by decide) (by omega))

theorem addF_lt {null : List Fc} {sets : List Nat} {p : Pr} (hs : Lt32 sets) (hd : SyIn sets.length p.right) : addF null sets p < 2 ^ 32 :=
  Nat.or_lt_two_pow (getD_lt hs _) (rowW_lt hs _ _ (by decide) hd)

theorem Lt32.set {sets : List Nat} {a v : Nat} (h : Lt32 sets) (hv : v < 2 ^ 32) : Lt32 (sets.set a v) := by
  intro s hs
  rcases List.mem_or_eq_of_mem_set hs with h' | rfl
  · exact h s h'
  · exact hv

theorem countP_less {α : Type} {p q : α → Bool} : ∀ {l : List α}, (∀ x ∈ l, q x = true → p x = true) → (∃ x ∈ l, p x = true ∧ q x = false) → l.countP q < l.countP p
  | [], _, ⟨x, hx, _⟩ => by cases hx
  | y :: l, h, ⟨x, hx, hp, hq⟩ => by
    have hle : l.countP q ≤ l.countP p := List.countP_mono_left fun x hx => h x (by simp [hx])
    rw [List.countP_cons, List.countP_cons]
    rcases List.mem_cons.1 hx with rfl | hx
    · simp [hp, hq]; omega
    · have := countP_less (p := p) (q := q) (fun x hx => h x (by simp [hx])) ⟨x, hx, hp, hq⟩
      have := h y (by simp)
      cases hqy : q y <;> cases hpy : p y <;> simp_all <;> omega

def miss (x : Nat) : Nat := (List.range 32).countP fun t => !x.testBit t

def missing (sets : List Nat) : Nat := (sets.map miss).sum

theorem miss_or {a b : Nat} (ha : a < 2 ^ 32) (hb : b < 2 ^ 32) (h : a ||| b ≠ a) : miss (a ||| b) < miss a := by
  unfold miss
  refine countP_less (fun t _ ht => ?_) ?_
  · simp only [Nat.testBit_or, Bool.not_or, Bool.and_eq_true] at ht
    exact ht.1
  · have : ∃ t, (a ||| b).testBit t ≠ a.testBit t := by
      refine Classical.byContradiction fun hc => h ?_
      refine Nat.eq_of_testBit_eq fun t => ?_
      exact Classical.byContradiction fun h' => hc ⟨t, h'⟩
    obtain ⟨t, ht⟩ := this
    have h32 : t < 32 := by
      refine Classical.byContradiction fun hc => ht ?_
      rw [Nat.testBit_lt_two_pow (Nat.lt_of_lt_of_le (Nat.or_lt_two_pow ha hb) (Nat.pow_le_pow_right (by decide) (by omega))), Nat.testBit_lt_two_pow (Nat.lt_of_lt_of_le ha (Nat.pow_le_pow_right (by decide) (by omega)))]
    refine ⟨t, List.mem_range.2 h32, ?_⟩
    rw [Nat.testBit_or] at ht ⊢
    cases ha' : a.testBit t <;> cases hb' : b.testBit t <;> simp_all

theorem missing_set {sets : List Nat} {a v : Nat} (ha : a < sets.length) (h : miss v < miss (sets.getD a 0)) : missing (sets.set a v) < missing sets := by
  unfold missing
  induction sets generalizing a with
  | nil => simp at ha
  | cons x xs ih =>
    cases a with
    | zero => simp at h ⊢; omega
    | succ a =>
      have := ih (a := a) (by simpa using ha) (by simpa using h)
      simp only [List.set_cons_succ, List.map_cons, List.sum_cons]; omega

/-- A grammar, as the sets want it. -/
def Gr.FIn (g : Gr) (M : Nat) : Prop := ∀ p ∈ g.prods, (0 ≤ p.left ∧ p.left < M) ∧ SyIn M p.right

theorem right_fin {g : Gr} (h : right g = true) : g.FIn g.nons.toNat := by
  obtain ⟨⟨h1, _⟩, ⟨_, h2⟩, _, _, h5⟩ := right_in h
  intro p hp
  obtain ⟨a, _, c⟩ := h5 p hp
  refine ⟨by omega, fun s hs => ⟨(c s hs).1, ?_⟩⟩
  have := (c s hs).2
  split
  · rename_i hn; rw [if_pos hn] at this; omega
  · rename_i hn; rw [if_neg hn] at this; omega

theorem passF_less {null : List Fc} {sets s' : List Nat} (hs : Lt32 sets) : ∀ ps : List Pr, (∀ p ∈ ps, (0 ≤ p.left ∧ p.left < sets.length) ∧ SyIn sets.length p.right) → passF null sets ps = some s' → missing s' < missing sets ∧ Lt32 s' ∧ s'.length = sets.length
  | [], _, h => by cases h
  | p :: ps, hd, h => by
    rw [passF] at h
    split at h
    · exact passF_less hs ps (fun q hq => hd q (by simp [hq])) h
    · rename_i hne
      cases h
      obtain ⟨⟨h0, h1⟩, h2⟩ := hd p (by simp)
      refine ⟨missing_set (by omega) ?_, hs.set (addF_lt hs h2), by simp⟩
      exact miss_or (getD_lt hs _) (rowW_lt hs _ _ (by decide) h2) hne

end Go.Av

