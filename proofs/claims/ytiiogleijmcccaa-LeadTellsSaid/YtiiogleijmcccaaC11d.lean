/-
  Layer 11: rounds enough find all that is first. Conditions: none.
-/
import Derived.Test.YtiiogleijmcccaaF8
import Derived.Test.YtiiogleijmcccaaC11c
namespace Go.Av
open Go.Proofs
set_option linter.unusedSimpArgs false
set_option linter.unusedVariables false

/-- The nonterminals that have a terminal. -/
def bts (t : Nat) (s : List Nat) (n : Nat) : Bool := (s.getD n 0).testBit t

theorem bts_add {null : List Fc} {s : List Nat} {p : Pr} {t : Nat} (h : p.left.toNat < s.length) (n : Nat) : bts t (addR null s p) n = if n = p.left.toNat then bts t s n || rowB (bts t s) null t p.right else bts t s n := by
  unfold bts addR
  rw [List.getD_eq_getElem?_getD, List.getElem?_set]
  by_cases e : p.left.toNat = n
  · rw [if_pos e, if_pos h, if_pos e.symm]
    show (addF null s p).testBit t = _
    rw [addF_bit, e]
  · rw [if_neg e, if_neg (Ne.symm e), ← List.getD_eq_getElem?_getD]

theorem bts_closed {null : List Fc} {t : Nat} : ∀ (ps : List Pr) (s : List Nat), (∀ p ∈ ps, p.left.toNat < s.length) → (∀ p ∈ ps, rowB (bts t s) null t p.right = true → bts t s p.left.toNat = true) → bts t (ps.foldl (addR null) s) = bts t s
  | [], s, _, _ => rfl
  | q :: ps, s, hp, hc => by
    rw [List.foldl_cons]
    have e : bts t (addR null s q) = bts t s := by
      funext n
      rw [bts_add (hp q List.mem_cons_self)]
      split
      · rename_i hn
        cases h2 : rowB (bts t s) null t q.right
        · simp
        · rw [hn, hc q List.mem_cons_self h2]; rfl
      · rfl
    rw [bts_closed ps (addR null s q) (fun x hx => by rw [addR_len]; exact hp x (List.mem_cons_of_mem _ hx)) (by rw [e]; exact fun p hm => hc p (List.mem_cons_of_mem _ hm)), e]

def cntB (M t : Nat) (s : List Nat) : Nat := (List.range M).countP (bts t s)

def ClT (g : Gr) (null : List Fc) (t : Nat) (s : List Nat) : Prop := ∀ p ∈ g.prods, rowB (bts t s) null t p.right = true → bts t s p.left.toNat = true

theorem rndF_len {g : Gr} {null : List Fc} {s : List Nat} : (roundF g null s).length = s.length := foldA_len _ _

theorem ClT.rounds {g : Gr} {null : List Fc} {t : Nat} : ∀ (k : Nat) (s : List Nat), (∀ p ∈ g.prods, p.left.toNat < s.length) → ClT g null t s → ClT g null t (roundsF g null k s)
  | 0, s, _, h => h
  | k + 1, s, hp, h => by
    rw [roundsF]
    refine ClT.rounds k _ (by rw [rndF_len]; exact hp) ?_
    unfold ClT roundF
    rw [bts_closed g.prods s hp h]
    exact h

theorem SSd.fold {g : Gr} {null : List Fc} {M : Nat} (hf : g.FIn M) : ∀ (ps : List Pr) (s : List Nat), (∀ p ∈ ps, p ∈ g.prods) → s.length = M → Lt32 s → SSd g null s → SSd g null (ps.foldl (addR null) s) ∧ Lt32 (ps.foldl (addR null) s)
  | [], s, _, _, h, k => ⟨k, h⟩
  | p :: ps, s, hp, hl, h, k => by
    obtain ⟨⟨h0, h1⟩, hd⟩ := hf p (hp p List.mem_cons_self)
    rw [List.foldl_cons]
    refine SSd.fold hf ps _ (fun q hq => hp q (List.mem_cons_of_mem _ hq)) (by rw [addR_len]; exact hl) ?_ (k.set (hp p List.mem_cons_self) h0 (by rw [hl]; exact hd))
    intro y hy
    rcases List.mem_or_eq_of_mem_set hy with hy | hy
    · exact h y hy
    · rw [hy]; exact Nat.or_lt_two_pow (getD_lt h _) (rowW_lt h _ 0 (by decide) (by rw [hl]; exact hd))

theorem SSd.rounds {g : Gr} {null : List Fc} {M : Nat} (hf : g.FIn M) : ∀ (k : Nat) (s : List Nat), s.length = M → Lt32 s → SSd g null s → SSd g null (roundsF g null k s) ∧ Lt32 (roundsF g null k s)
  | 0, s, _, h, k => ⟨k, h⟩
  | n + 1, s, hl, h, k => by
    obtain ⟨a, b⟩ := SSd.fold hf g.prods s (fun _ h => h) hl h k
    rw [roundsF]
    exact SSd.rounds hf n _ (by rw [rndF_len]; exact hl) b a

end Go.Av
