/-
  Layer 11: rounds enough find all that is first. Conditions: none.
-/
import Derived.Test.YtiiogleijmcccaaF8
import Derived.Test.YtiiogleijmcccaaC11c
namespace Go.Av
open Go.Proofs
set_option linter.unusedSimpArgs false
set_option linter.unusedVariables false

/-- The nonterminals that have a terminal. -/
def bts (t : Nat) (s : List Nat) (n : Nat) : Bool := (s.getD n 0).testBit t

theorem bts_add {null : List Fc} {s : List Nat} {p : Pr} {t : Nat} (h : p.left.toNat < s.length) (n : Nat) : bts t (addR null s p) n = if n = p.left.toNat then bts t s n || rowB (bts t s) null t p.right else bts t s n := by
  unfold bts addR
  rw [List.getD_eq_getElem?_getD, List.getElem?_set]
  by_cases e : p.left.toNat = n
  · rw [if_pos e, if_pos h, if_pos e.symm]
    show (addF null s p).testBit t = _
    rw [addF_bit, e]
  · rw [if_neg e, if_neg (Ne.symm e), ← List.getD_eq_getElem?_getD]

theorem bts_mono {null : List Fc} {t n : Nat} : ∀ (ps : List Pr) (s : List Nat), (∀ p ∈ ps, p.left.toNat < s.length) → bts t s n = true → bts t (ps.foldl (addR null) s) n = true
  | [], s, _, h => h
  | p :: ps, s, hp, h => by
    rw [List.foldl_cons]
    refine bts_mono ps _ (fun q hq => by rw [addR_len]; exact hp q (List.mem_cons_of_mem _ hq)) ?_
    rw [bts_add (hp p List.mem_cons_self)]
    split <;> simp [h]

theorem bts_same {null : List Fc} {t : Nat} : ∀ (ps : List Pr) (s : List Nat), (∀ p ∈ ps, p.left.toNat < s.length) → bts t (ps.foldl (addR null) s) = bts t s → ∀ p ∈ ps, rowB (bts t s) null t p.right = true → bts t s p.left.toNat = true
  | [], s, _, _, p, hp, _ => by cases hp
  | q :: ps, s, hp, h, p, hm, hr => by
    rw [List.foldl_cons] at h
    have hps : ∀ p ∈ ps, p.left.toNat < (addR null s q).length := fun x hx => by rw [addR_len]; exact hp x (List.mem_cons_of_mem _ hx)
    have e : bts t (addR null s q) = bts t s := by
      funext n
      cases h1 : bts t s n
      · cases h2 : bts t (addR null s q) n
        · rfl
        · have := bts_mono (null := null) ps _ hps h2
          rw [h, h1] at this; exact this.symm
      · rw [bts_add (hp q List.mem_cons_self)]
        split <;> simp [h1]
    rcases List.mem_cons.1 hm with rfl | hm
    · have := bts_add (null := null) (t := t) (hp p List.mem_cons_self) p.left.toNat
      rw [e, if_pos rfl, hr, Bool.or_true] at this
      exact this
    · have := bts_same ps (addR null s q) hps (by rw [h, e]) p hm (by rw [e]; exact hr)
      rw [e] at this; exact this

theorem bts_closed {null : List Fc} {t : Nat} : ∀ (ps : List Pr) (s : List Nat), (∀ p ∈ ps, p.left.toNat < s.length) → (∀ p ∈ ps, rowB (bts t s) null t p.right = true → bts t s p.left.toNat = true) → bts t (ps.foldl (addR null) s) = bts t s
  | [], s, _, _ => rfl
  | q :: ps, s, hp, hc => by
    rw [List.foldl_cons]
    have e : bts t (addR null s q) = bts t s := by
      funext n
      rw [bts_add (hp q List.mem_cons_self)]
      split
      · rename_i hn
        cases h2 : rowB (bts t s) null t q.right
        · simp
        · rw [hn, hc q List.mem_cons_self h2]; rfl
      · rfl
    rw [bts_closed ps (addR null s q) (fun x hx => by rw [addR_len]; exact hp x (List.mem_cons_of_mem _ hx)) (by rw [e]; exact fun p hm => hc p (List.mem_cons_of_mem _ hm)), e]

def cntB (M t : Nat) (s : List Nat) : Nat := (List.range M).countP (bts t s)

def ClT (g : Gr) (null : List Fc) (t : Nat) (s : List Nat) : Prop := ∀ p ∈ g.prods, rowB (bts t s) null t p.right = true → bts t s p.left.toNat = true

theorem rndF_len {g : Gr} {null : List Fc} {s : List Nat} : (roundF g null s).length = s.length := foldA_len _ _

theorem rounds_len {g : Gr} {null : List Fc} : ∀ (k : Nat) (s : List Nat), (roundsF g null k s).length = s.length
  | 0, s => rfl
  | k + 1, s => by rw [roundsF, rounds_len k, rndF_len]

theorem ClT.rounds {g : Gr} {null : List Fc} {t : Nat} : ∀ (k : Nat) (s : List Nat), (∀ p ∈ g.prods, p.left.toNat < s.length) → ClT g null t s → ClT g null t (roundsF g null k s)
  | 0, s, _, h => h
  | k + 1, s, hp, h => by
    rw [roundsF]
    refine ClT.rounds k _ (by rw [rndF_len]; exact hp) ?_
    unfold ClT roundF
    rw [bts_closed g.prods s hp h]
    exact h

theorem countP_same {α : Type} {f h : α → Bool} : ∀ l : List α, (∀ x ∈ l, f x = true → h x = true) → l.countP h ≤ l.countP f → ∀ x ∈ l, h x = f x
  | [], _, _, x, hx => by cases hx
  | a :: l, hm, hle, x, hx => by
    have hml : ∀ x ∈ l, f x = true → h x = true := fun y hy => hm y (List.mem_cons_of_mem _ hy)
    have hmono : l.countP f ≤ l.countP h := List.countP_mono_left hml
    rw [List.countP_cons, List.countP_cons] at hle
    have ha := hm a List.mem_cons_self
    have hfa : h a = f a := by
      cases h1 : f a
      · cases h2 : h a
        · rfl
        · simp [h1, h2] at hle; omega
      · exact ha h1
    rcases List.mem_cons.1 hx with rfl | hx
    · exact hfa
    · refine countP_same l hml ?_ x hx
      rw [hfa] at hle; omega

theorem rounds_cl {g : Gr} {null : List Fc} {t M : Nat} : ∀ (k : Nat) (s : List Nat), s.length = M → (∀ p ∈ g.prods, p.left.toNat < M) → M - cntB M t s < k → ClT g null t (roundsF g null k s)
  | 0, s, _, _, h => by omega
  | k + 1, s, hl, hp, h => by
    rw [roundsF]
    have hp' : ∀ p ∈ g.prods, p.left.toNat < s.length := by rw [hl]; exact hp
    have hmono : ∀ n, bts t s n = true → bts t (roundF g null s) n = true := fun n => bts_mono g.prods s hp'
    have hle : cntB M t s ≤ cntB M t (roundF g null s) := List.countP_mono_left fun x _ => hmono x
    have hM : cntB M t (roundF g null s) ≤ M := by have := List.countP_le_length (p := bts t (roundF g null s)) (l := List.range M); rw [List.length_range] at this; exact this
    by_cases he : cntB M t (roundF g null s) ≤ cntB M t s
    · have e : bts t (roundF g null s) = bts t s := by
        funext n
        by_cases hn : n < M
        · exact countP_same (List.range M) (fun x _ => hmono x) he n (List.mem_range.2 hn)
        · have a : ∀ l : List Nat, l.length = M → bts t l n = false := fun l hl => by
            unfold bts
            rw [List.getD_eq_getElem?_getD, List.getElem?_eq_none (by omega)]; simp
          rw [a _ (by rw [rndF_len, hl]), a _ hl]
      have hc : ClT g null t s := bts_same g.prods s hp' e
      refine ClT.rounds k _ (by rw [rndF_len]; exact hp') ?_
      unfold ClT
      rw [e]; exact hc
    · exact rounds_cl k _ (by rw [rndF_len, hl]) hp (by omega)

theorem SSd.fold {g : Gr} {null : List Fc} {M : Nat} (hf : g.FIn M) : ∀ (ps : List Pr) (s : List Nat), (∀ p ∈ ps, p ∈ g.prods) → s.length = M → Lt32 s → SSd g null s → SSd g null (ps.foldl (addR null) s) ∧ Lt32 (ps.foldl (addR null) s)
  | [], s, _, _, h, k => ⟨k, h⟩
  | p :: ps, s, hp, hl, h, k => by
    obtain ⟨⟨h0, h1⟩, hd⟩ := hf p (hp p List.mem_cons_self)
    rw [List.foldl_cons]
    refine SSd.fold hf ps _ (fun q hq => hp q (List.mem_cons_of_mem _ hq)) (by rw [addR_len]; exact hl) ?_ (k.set (hp p List.mem_cons_self) h0 (by rw [hl]; exact hd))
    intro y hy
    rcases List.mem_or_eq_of_mem_set hy with hy | hy
    · exact h y hy
    · rw [hy]; exact Nat.or_lt_two_pow (getD_lt h _) (rowW_lt h _ 0 (by decide) (by rw [hl]; exact hd))

theorem SSd.rounds {g : Gr} {null : List Fc} {M : Nat} (hf : g.FIn M) : ∀ (k : Nat) (s : List Nat), s.length = M → Lt32 s → SSd g null s → SSd g null (roundsF g null k s) ∧ Lt32 (roundsF g null k s)
  | 0, s, _, h, k => ⟨k, h⟩
  | n + 1, s, hl, h, k => by
    obtain ⟨a, b⟩ := SSd.fold hf g.prods s (fun _ h => h) hl h k
    rw [roundsF]
    exact SSd.rounds hf n _ (by rw [rndF_len]; exact hl) b a

theorem firstR_fin {g : Gr} (h : right g = true) : (firstR g).length = g.nons.toNat ∧ Lt32 (firstR g) ∧ SSd g (ranksL g false) (firstR g) ∧ SCl g (ranksL g false) (firstR g) := by
  have hf := right_fin h
  unfold firstR
  rw [if_pos h]
  obtain ⟨a, b⟩ := SSd.rounds (null := ranksL g false) hf (g.nons.toNat + 1) (List.replicate g.nons.toNat 0) (by simp) (fun s hs => by rw [List.mem_replicate] at hs; rw [hs.2]; decide) (fun n t hn hb => by rw [getD_zero] at hb; simp at hb)
  refine ⟨by rw [rounds_len]; simp, b, a, fun p hp t ht => ?_⟩
  exact rounds_cl (M := g.nons.toNat) (g.nons.toNat + 1) (List.replicate g.nons.toNat 0) (by simp) (fun p hp => by have := (hf p hp).1; omega) (by omega) p hp ht

theorem firstR_eq (g : Gr) : firstR g = firstL g := by
  cases h : right g
  · simp [firstR, firstL, h]
  obtain ⟨a1, a2, a3, a4⟩ := firstR_fin h
  obtain ⟨b1, b2, b3, b4⟩ := first_fin h
  refine List.ext_getElem? fun n => ?_
  by_cases hn : n < g.nons.toNat
  · have e : (firstR g).getD n 0 = (firstL g).getD n 0 := by
      refine Nat.eq_of_testBit_eq fun t => ?_
      rw [Bool.eq_iff_iff, sets_iff a3 a4 (by omega), sets_iff b3 b4 (by omega)]
    rw [List.getD_eq_getElem?_getD, List.getD_eq_getElem?_getD] at e
    rw [List.getElem?_eq_getElem (by omega), List.getElem?_eq_getElem (by omega)] at e ⊢
    simpa using e
  · rw [List.getElem?_eq_none (by omega), List.getElem?_eq_none (by omega)]

end Go.Av
