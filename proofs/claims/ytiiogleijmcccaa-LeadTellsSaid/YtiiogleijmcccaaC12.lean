/-
  Layer 12, the plain law: what stands behind nonterminals. Conditions: none.
-/
import Derived.Test.YtiiogleijmcccaaC11d
namespace Go.Av
open Go.Proofs
set_option linter.unusedSimpArgs false
set_option linter.unusedVariables false

/-- What stands behind a nonterminal in a production. -/
structure Bh where
  non : Int
  left : Int
  set : Nat
  null : Bool

def eBh (x : Bh) : List AV := [.int .i64 x.non, .int .i64 x.left, .int .u32 x.set, .bool x.null]
attribute [go_sem] eBh

def behL (g : Gr) (left : Int) : List Sy → List Bh
  | [] => []
  | s :: l => if s.non then ⟨s.n, left, (ofL g l).1, (ofL g l).2⟩ :: behL g left l else behL g left l

def placesL (g : Gr) : List Bh := g.prods.flatMap fun p => behL g p.left p.right

def moreF (s : List Nat) (x : Bh) : Nat := if x.null then (s.getD x.non.toNat 0 ||| x.set) ||| s.getD x.left.toNat 0 else s.getD x.non.toNat 0 ||| x.set

def passB (s : List Nat) : List Bh → Option (List Nat)
  | [] => none
  | x :: xs => if moreF s x = s.getD x.non.toNat 0 then passB s xs else some (s.set x.non.toNat (moreF s x))

def fixB (l : List Bh) : Nat → List Nat → List Nat
  | 0, s => s
  | f + 1, s => match passB s l with
    | some s' => fixB l f s'
    | none => s

def followI (g : Gr) : List Nat := (List.replicate g.nons.toNat 0).set g.start.toNat (2 ^ 16)

def followL (g : Gr) : List Nat := if right g then fixB (placesL g) (32 * g.nons.toNat + 1) (followI g) else []

def addB (s : List Nat) (x : Bh) : List Nat := s.set x.non.toNat (moreF s x)

def roundB (l : List Bh) (s : List Nat) : List Nat := l.foldl addB s

def roundsB (l : List Bh) : Nat → List Nat → List Nat
  | 0, s => s
  | k + 1, s => roundsB l k (roundB l s)

def followR (g : Gr) : List Nat := if right g then roundsB (placesL g) (g.nons.toNat + 1) (followI g) else []

/-- Places that may be. -/
def BIn (M : Nat) (l : List Bh) : Prop := ∀ x ∈ l, (0 ≤ x.non ∧ x.non < M) ∧ (0 ≤ x.left ∧ x.left < M) ∧ x.set < 2 ^ 32

theorem moreF_lt {s : List Nat} {x : Bh} (hs : Lt32 s) (hx : x.set < 2 ^ 32) : moreF s x < 2 ^ 32 := by
  unfold moreF
  have h1 := Nat.or_lt_two_pow (getD_lt hs x.non.toNat) hx
  split
  · exact Nat.or_lt_two_pow h1 (getD_lt hs _)
  · exact h1

def bB (t : Nat) (B : Nat → Bool) (x : Bh) : Bool := x.set.testBit t || (x.null && B x.left.toNat)

theorem moreF_bit {s : List Nat} {x : Bh} {t : Nat} : (moreF s x).testBit t = (bts t s x.non.toNat || bB t (bts t s) x) := by
  unfold moreF bB bts
  split
  · rename_i h; simp [h, Nat.testBit_or, Bool.or_assoc]
  · rename_i h; simp [h, Nat.testBit_or]

theorem addB_len {s : List Nat} {x : Bh} : (addB s x).length = s.length := by simp [addB]

theorem bts_set {s : List Nat} {a v t n : Nat} (h : a < s.length) : bts t (s.set a v) n = if n = a then v.testBit t else bts t s n := by
  unfold bts
  rw [List.getD_eq_getElem?_getD, List.getElem?_set]
  by_cases e : a = n
  · rw [if_pos e, if_pos h, if_pos e.symm]; rfl
  · rw [if_neg e, if_neg (Ne.symm e), ← List.getD_eq_getElem?_getD]

theorem bts_addB {s : List Nat} {x : Bh} {t : Nat} (h : x.non.toNat < s.length) (n : Nat) : bts t (addB s x) n = if n = x.non.toNat then bts t s n || bB t (bts t s) x else bts t s n := by
  unfold addB
  rw [bts_set h]
  split
  · rename_i e; rw [moreF_bit, e]
  · rfl

/-- All that is in the sets is there by right; all that must be is. -/
def SdB (F : Nat → Nat → Prop) (s : List Nat) : Prop := ∀ n t : Nat, n < s.length → bts t s n = true → F n t
def ClB (l : List Bh) (s : List Nat) : Prop := ∀ x ∈ l, ∀ t : Nat, bB t (bts t s) x = true → bts t s x.non.toNat = true

/-- What stands behind nonterminals. -/
inductive Fol (g : Gr) : Nat → Nat → Prop
  | start : Fol g g.start.toNat 16
  | set {x : Bh} {t : Nat} (hx : x ∈ placesL g) (ht : x.set.testBit t = true) : Fol g x.non.toNat t
  | null {x : Bh} {t : Nat} (hx : x ∈ placesL g) (hn : x.null = true) (h : Fol g x.left.toNat t) : Fol g x.non.toNat t

theorem SdB.add {g : Gr} {s : List Nat} {x : Bh} (hs : SdB (Fol g) s) (hx : x ∈ placesL g) (h1 : x.non.toNat < s.length) (h2 : x.left.toNat < s.length) : SdB (Fol g) (addB s x) := by
  intro n t hn hb
  rw [addB_len] at hn
  rw [bts_addB h1] at hb
  split at hb
  · rename_i e
    subst e
    rw [Bool.or_eq_true] at hb
    rcases hb with hb | hb
    · exact hs _ t hn hb
    · simp only [bB, Bool.or_eq_true, Bool.and_eq_true] at hb
      rcases hb with hb | ⟨hb, hc⟩
      · exact .set hx hb
      · exact .null hx hb (hs _ t h2 hc)
  · exact hs n t hn hb

/-! Rounds. -/

theorem foldB_len : ∀ (xs : List Bh) (s : List Nat), (xs.foldl addB s).length = s.length
  | [], s => rfl
  | x :: xs, s => by rw [List.foldl_cons, foldB_len xs, addB_len]

theorem btsB_closed {t : Nat} : ∀ (ps : List Bh) (s : List Nat), (∀ p ∈ ps, p.non.toNat < s.length) → (∀ p ∈ ps, bB t (bts t s) p = true → bts t s p.non.toNat = true) → bts t (ps.foldl addB s) = bts t s
  | [], s, _, _ => rfl
  | q :: ps, s, hp, hc => by
    rw [List.foldl_cons]
    have e : bts t (addB s q) = bts t s := by
      funext n
      rw [bts_addB (hp q List.mem_cons_self)]
      split
      · rename_i hn
        cases h2 : bB t (bts t s) q
        · simp
        · rw [hn, hc q List.mem_cons_self h2]; rfl
      · rfl
    rw [btsB_closed ps (addB s q) (fun x hx => by rw [addB_len]; exact hp x (List.mem_cons_of_mem _ hx)) (by rw [e]; exact fun p hm => hc p (List.mem_cons_of_mem _ hm)), e]

def ClTB (l : List Bh) (t : Nat) (s : List Nat) : Prop := ∀ p ∈ l, bB t (bts t s) p = true → bts t s p.non.toNat = true

theorem ClTB.rounds {l : List Bh} {t : Nat} : ∀ (k : Nat) (s : List Nat), (∀ p ∈ l, p.non.toNat < s.length) → ClTB l t s → ClTB l t (roundsB l k s)
  | 0, s, _, h => h
  | k + 1, s, hp, h => by
    rw [roundsB]
    refine ClTB.rounds k _ (by rw [roundB, foldB_len]; exact hp) ?_
    unfold ClTB roundB
    rw [btsB_closed l s hp h]
    exact h

/-- What a round keeps. -/
def KeepB (g : Gr) (M : Nat) (s : List Nat) : Prop := s.length = M ∧ Lt32 s ∧ SdB (Fol g) s ∧ bts 16 s g.start.toNat = true

theorem KeepB.add {g : Gr} {M : Nat} {s : List Nat} {x : Bh} (h : KeepB g M s) (hx : x ∈ placesL g) (hi : BIn M (placesL g)) : KeepB g M (addB s x) := by
  obtain ⟨h1, h2, h3, h4⟩ := h
  obtain ⟨⟨a1, a2⟩, ⟨a4, a5⟩, a3⟩ := hi x hx
  refine ⟨by rw [addB_len]; exact h1, h2.set (moreF_lt h2 a3), h3.add hx (by omega) (by omega), ?_⟩
  rw [bts_addB (by omega)]
  split <;> simp [h4]

theorem KeepB.fold {g : Gr} {M : Nat} (hi : BIn M (placesL g)) : ∀ (xs : List Bh) (s : List Nat), (∀ x ∈ xs, x ∈ placesL g) → KeepB g M s → KeepB g M (xs.foldl addB s)
  | [], s, _, h => h
  | x :: xs, s, hx, h => by
    rw [List.foldl_cons]
    exact KeepB.fold hi xs _ (fun y hy => hx y (List.mem_cons_of_mem _ hy)) (h.add (hx x List.mem_cons_self) hi)

theorem KeepB.rounds {g : Gr} {M : Nat} (hi : BIn M (placesL g)) : ∀ (k : Nat) (s : List Nat), KeepB g M s → KeepB g M (roundsB (placesL g) k s)
  | 0, s, h => h
  | k + 1, s, h => by
    rw [roundsB]
    exact KeepB.rounds hi k _ (KeepB.fold hi _ s (fun _ h => h) h)

/-! Rows of symbols. -/

def nulL (null : List Fc) (l : List Sy) : Bool := l.all fun s => s.non && decide (rk null s.n ≠ 0)

def fB (g : Gr) (t : Nat) : List Sy → Bool := rowB (fun n => ((firstL g).getD n 0).testBit t) (ranksL g false) t
def nB (g : Gr) : List Sy → Bool := nulL (ranksL g false)

/-- What stands behind each nonterminal of a row is in its set. -/
def GoodRow (g : Gr) (row : List Sy) : Prop := ∀ a n b, row = a ++ ⟨true, n⟩ :: b → (∀ t, fB g t b = true → bts t (followL g) n.toNat = true) ∧ (nB g b = true → bts 16 (followL g) n.toNat = true)

end Go.Av
