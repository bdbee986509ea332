/-
  Layer 12, the plain law: what stands behind nonterminals. Conditions: none.
-/
import Derived.Test.YtiiogleijmcccaaC11d
namespace Go.Av
open Go.Proofs
set_option linter.unusedSimpArgs false
set_option linter.unusedVariables false

/-- What stands behind a nonterminal in a production. -/
structure Bh where
  non : Int
  left : Int
  set : Nat
  null : Bool

def eBh (x : Bh) : List AV := [.int .i64 x.non, .int .i64 x.left, .int .u32 x.set, .bool x.null]
attribute [go_sem] eBh

def behL (g : Gr) (left : Int) : List Sy → List Bh
  | [] => []
  | s :: l => if s.non then ⟨s.n, left, (ofL g l).1, (ofL g l).2⟩ :: behL g left l else behL g left l

def placesL (g : Gr) : List Bh := g.prods.flatMap fun p => behL g p.left p.right

def moreF (s : List Nat) (x : Bh) : Nat := if x.null then (s.getD x.non.toNat 0 ||| x.set) ||| s.getD x.left.toNat 0 else s.getD x.non.toNat 0 ||| x.set

def passB (s : List Nat) : List Bh → Option (List Nat)
  | [] => none
  | x :: xs => if moreF s x = s.getD x.non.toNat 0 then passB s xs else some (s.set x.non.toNat (moreF s x))

def fixB (l : List Bh) : Nat → List Nat → List Nat
  | 0, s => s
  | f + 1, s => match passB s l with
    | some s' => fixB l f s'
    | none => s

def followI (g : Gr) : List Nat := (List.replicate g.nons.toNat 0).set g.start.toNat (2 ^ 16)

def followL (g : Gr) : List Nat := if right g then fixB (placesL g) (32 * g.nons.toNat + 1) (followI g) else []

def addB (s : List Nat) (x : Bh) : List Nat := s.set x.non.toNat (moreF s x)

def roundB (l : List Bh) (s : List Nat) : List Nat := l.foldl addB s

def roundsB (l : List Bh) : Nat → List Nat → List Nat
  | 0, s => s
  | k + 1, s => roundsB l k (roundB l s)

def followR (g : Gr) : List Nat := if right g then roundsB (placesL g) (g.nons.toNat + 1) (followI g) else []

/-- Places that may be. -/
def BIn (M : Nat) (l : List Bh) : Prop := ∀ x ∈ l, (0 ≤ x.non ∧ x.non < M) ∧ (0 ≤ x.left ∧ x.left < M) ∧ x.set < 2 ^ 32

theorem mem_beh {g : Gr} {left : Int} {x : Bh} : ∀ {r : List Sy}, x ∈ behL g left r ↔ ∃ a n b, r = a ++ ⟨true, n⟩ :: b ∧ x = ⟨n, left, (ofL g b).1, (ofL g b).2⟩
  | [] => by
    simp [behL]
  | ⟨sn, n⟩ :: l => by
    rw [behL]
    constructor
    · intro h
      cases sn with
      | true =>
        simp only [if_true, List.mem_cons] at h
        rcases h with h | h
        · exact ⟨[], n, l, rfl, h⟩
        · obtain ⟨a, m, b, rfl, e⟩ := mem_beh.1 h
          exact ⟨⟨true, n⟩ :: a, m, b, rfl, e⟩
      | false =>
        simp only [Bool.false_eq_true, if_false] at h
        obtain ⟨a, m, b, rfl, e⟩ := mem_beh.1 h
        exact ⟨⟨false, n⟩ :: a, m, b, rfl, e⟩
    · rintro ⟨a, m, b, e, rfl⟩
      cases a with
      | nil =>
        simp only [List.nil_append, List.cons.injEq, Sy.mk.injEq] at e
        obtain ⟨⟨rfl, rfl⟩, rfl⟩ := e
        simp
      | cons y a =>
        simp only [List.cons_append, List.cons.injEq] at e
        obtain ⟨_, rfl⟩ := e
        have := (mem_beh (g := g) (left := left) (x := ⟨m, left, (ofL g b).1, (ofL g b).2⟩) (r := a ++ ⟨true, m⟩ :: b)).2 ⟨a, m, b, rfl, rfl⟩
        split
        · exact List.mem_cons_of_mem _ this
        · exact this

theorem mem_places {g : Gr} {x : Bh} : x ∈ placesL g ↔ ∃ p ∈ g.prods, ∃ a n b, p.right = a ++ ⟨true, n⟩ :: b ∧ x = ⟨n, p.left, (ofL g b).1, (ofL g b).2⟩ := by
  simp only [placesL, List.mem_flatMap, mem_beh]

theorem places_in {g : Gr} (hr : right g = true) : BIn g.nons.toNat (placesL g) := by
  intro x hx
  obtain ⟨p, hp, a, n, b, e, rfl⟩ := mem_places.1 hx
  obtain ⟨h1, h2⟩ := right_fin hr p hp
  have h3 := h2 ⟨true, n⟩ (by rw [e]; simp)
  simp only [if_true] at h3
  exact ⟨h3, h1, ofL_lt b⟩

theorem moreF_lt {s : List Nat} {x : Bh} (hs : Lt32 s) (hx : x.set < 2 ^ 32) : moreF s x < 2 ^ 32 := by
  unfold moreF
  have h1 := Nat.or_lt_two_pow (getD_lt hs x.non.toNat) hx
  split
  · exact Nat.or_lt_two_pow h1 (getD_lt hs _)
  · exact h1

def bB (t : Nat) (B : Nat → Bool) (x : Bh) : Bool := x.set.testBit t || (x.null && B x.left.toNat)

theorem moreF_bit {s : List Nat} {x : Bh} {t : Nat} : (moreF s x).testBit t = (bts t s x.non.toNat || bB t (bts t s) x) := by
  unfold moreF bB bts
  split
  · rename_i h; simp [h, Nat.testBit_or, Bool.or_assoc]
  · rename_i h; simp [h, Nat.testBit_or]

theorem addB_len {s : List Nat} {x : Bh} : (addB s x).length = s.length := by simp [addB]

theorem bts_set {s : List Nat} {a v t n : Nat} (h : a < s.length) : bts t (s.set a v) n = if n = a then v.testBit t else bts t s n := by
  unfold bts
  rw [List.getD_eq_getElem?_getD, List.getElem?_set]
  by_cases e : a = n
  · rw [if_pos e, if_pos h, if_pos e.symm]; rfl
  · rw [if_neg e, if_neg (Ne.symm e), ← List.getD_eq_getElem?_getD]

theorem bts_addB {s : List Nat} {x : Bh} {t : Nat} (h : x.non.toNat < s.length) (n : Nat) : bts t (addB s x) n = if n = x.non.toNat then bts t s n || bB t (bts t s) x else bts t s n := by
  unfold addB
  rw [bts_set h]
  split
  · rename_i e; rw [moreF_bit, e]
  · rfl

/-- All that is in the sets is there by right; all that must be is. -/
def SdB (F : Nat → Nat → Prop) (s : List Nat) : Prop := ∀ n t : Nat, n < s.length → bts t s n = true → F n t
def ClB (l : List Bh) (s : List Nat) : Prop := ∀ x ∈ l, ∀ t : Nat, bB t (bts t s) x = true → bts t s x.non.toNat = true

/-- What stands behind nonterminals. -/
inductive Fol (g : Gr) : Nat → Nat → Prop
  | start : Fol g g.start.toNat 16
  | set {x : Bh} {t : Nat} (hx : x ∈ placesL g) (ht : x.set.testBit t = true) : Fol g x.non.toNat t
  | null {x : Bh} {t : Nat} (hx : x ∈ placesL g) (hn : x.null = true) (h : Fol g x.left.toNat t) : Fol g x.non.toNat t

theorem SdB.add {g : Gr} {s : List Nat} {x : Bh} (hs : SdB (Fol g) s) (hx : x ∈ placesL g) (h1 : x.non.toNat < s.length) (h2 : x.left.toNat < s.length) : SdB (Fol g) (addB s x) := by
  intro n t hn hb
  rw [addB_len] at hn
  rw [bts_addB h1] at hb
  split at hb
  · rename_i e
    subst e
    rw [Bool.or_eq_true] at hb
    rcases hb with hb | hb
    · exact hs _ t hn hb
    · simp only [bB, Bool.or_eq_true, Bool.and_eq_true] at hb
      rcases hb with hb | ⟨hb, hc⟩
      · exact .set hx hb
      · exact .null hx hb (hs _ t h2 hc)
  · exact hs n t hn hb

theorem fol_bts {g : Gr} {s : List Nat} (hc : ClB (placesL g) s) (h0 : bts 16 s g.start.toNat = true) {n t : Nat} (h : Fol g n t) : bts t s n = true := by
  induction h with
  | start => exact h0
  | set hx ht => exact hc _ hx _ (by simp [bB, ht])
  | null hx hn h ih => exact hc _ hx _ (by simp [bB, hn, ih])

theorem bts_iff {g : Gr} {s : List Nat} (hs : SdB (Fol g) s) (hc : ClB (placesL g) s) (h0 : bts 16 s g.start.toNat = true) {n t : Nat} (hn : n < s.length) : bts t s n = true ↔ Fol g n t :=
  ⟨hs n t hn, fol_bts hc h0⟩

theorem passB_none {s : List Nat} : ∀ xs : List Bh, passB s xs = none → ∀ x ∈ xs, moreF s x = s.getD x.non.toNat 0
  | [], _, p, hp => by cases hp
  | q :: ps, h, p, hp => by
    rw [passB] at h
    split at h
    · rename_i e
      rcases List.mem_cons.1 hp with rfl | hp
      · exact e
      · exact passB_none ps h p hp
    · cases h

theorem passB_some {s s' : List Nat} : ∀ xs : List Bh, passB s xs = some s' → ∃ x ∈ xs, s' = addB s x ∧ moreF s x ≠ s.getD x.non.toNat 0
  | [], h => by cases h
  | q :: ps, h => by
    rw [passB] at h
    split at h
    · obtain ⟨p, hp, e⟩ := passB_some ps h
      exact ⟨p, by simp [hp], e⟩
    · rename_i hne
      cases h; exact ⟨q, by simp, rfl, hne⟩

theorem moreF_or {s : List Nat} {x : Bh} : ∃ y, moreF s x = s.getD x.non.toNat 0 ||| y ∧ (Lt32 s → x.set < 2 ^ 32 → y < 2 ^ 32) := by
  unfold moreF
  split
  · exact ⟨x.set ||| s.getD x.left.toNat 0, by rw [Nat.or_assoc], fun h1 h2 => Nat.or_lt_two_pow h2 (getD_lt h1 _)⟩
  · exact ⟨x.set, rfl, fun _ h => h⟩

theorem passB_less {s s' : List Nat} {l : List Bh} (hs : Lt32 s) (hl : BIn s.length l) (h : passB s l = some s') : missing s' < missing s ∧ Lt32 s' ∧ s'.length = s.length := by
  obtain ⟨x, hx, rfl, hne⟩ := passB_some l h
  obtain ⟨⟨a1, a2⟩, _, a3⟩ := hl x hx
  refine ⟨missing_set (by omega) ?_, hs.set (moreF_lt hs a3), addB_len⟩
  obtain ⟨y, e, hy⟩ := moreF_or (s := s) (x := x)
  rw [e] at hne ⊢
  exact miss_or (getD_lt hs _) (hy hs a3) hne

theorem fixB_fin {g : Gr} : ∀ (k : Nat) (s : List Nat), Lt32 s → BIn s.length (placesL g) → missing s < k → SdB (Fol g) s → bts 16 s g.start.toNat = true →
    (fixB (placesL g) k s).length = s.length ∧ Lt32 (fixB (placesL g) k s) ∧ SdB (Fol g) (fixB (placesL g) k s) ∧ ClB (placesL g) (fixB (placesL g) k s) ∧ bts 16 (fixB (placesL g) k s) g.start.toNat = true
  | 0, s, _, _, h, _, _ => by omega
  | k + 1, s, h1, h2, h3, h4, h5 => by
    rw [fixB]
    cases e : passB s (placesL g) with
    | none =>
      refine ⟨rfl, h1, h4, fun x hx t hr => ?_, h5⟩
      have := passB_none _ e x hx
      have h6 := moreF_bit (s := s) (x := x) (t := t)
      rw [this, hr, Bool.or_true] at h6
      exact h6
    | some s' =>
      obtain ⟨a, b, c⟩ := passB_less h1 h2 e
      obtain ⟨x, hx, rfl, _⟩ := passB_some _ e
      obtain ⟨⟨a1, a2⟩, ⟨a4, a5⟩, a3⟩ := h2 x hx
      have := fixB_fin k (addB s x) b (by rw [c]; exact h2) (by omega) (h4.add hx (by omega) (by omega)) (by
        rw [bts_addB (by omega)]
        split <;> simp [h5])
      rw [c] at this
      exact this

theorem miss_le (x : Nat) : miss x ≤ 32 := by
  have := List.countP_le_length (p := fun t => !x.testBit t) (l := List.range 32)
  rwa [List.length_range] at this

theorem missing_le (s : List Nat) : missing s ≤ 32 * s.length := by
  unfold missing
  induction s with
  | nil => simp
  | cons a s ih =>
    rw [List.map_cons, List.sum_cons, List.length_cons]
    have := miss_le a
    omega

theorem followI_len {g : Gr} : (followI g).length = g.nons.toNat := by simp [followI]

theorem followI_lt {g : Gr} : Lt32 (followI g) := Lt32.set (fun s hs => by rw [List.mem_replicate] at hs; rw [hs.2]; decide) (by decide)

theorem followI_bts {g : Gr} (hr : right g = true) {n t : Nat} : bts t (followI g) n = true ↔ n = g.start.toNat ∧ t = 16 := by
  obtain ⟨_, _, ⟨h1, h2⟩, _⟩ := right_in hr
  unfold followI
  rw [bts_set (by rw [List.length_replicate]; omega)]
  split
  · rename_i e
    rw [Nat.testBit_two_pow]
    simp [e, eq_comm]
  · rename_i e
    unfold bts
    rw [getD_zero]
    simp [e]

theorem followI_sd {g : Gr} (hr : right g = true) : SdB (Fol g) (followI g) := by
  intro n t _ hb
  obtain ⟨rfl, rfl⟩ := (followI_bts hr).1 hb
  exact .start

theorem follow_fin {g : Gr} (hr : right g = true) : (followL g).length = g.nons.toNat ∧ Lt32 (followL g) ∧ SdB (Fol g) (followL g) ∧ ClB (placesL g) (followL g) ∧ bts 16 (followL g) g.start.toNat = true := by
  unfold followL
  rw [if_pos hr]
  have hm := missing_le (followI g)
  rw [followI_len] at hm
  have := fixB_fin (g := g) (32 * g.nons.toNat + 1) (followI g) followI_lt (by rw [followI_len]; exact places_in hr) (by omega) (followI_sd hr) ((followI_bts hr).2 ⟨rfl, rfl⟩)
  rw [followI_len] at this
  exact this

/-! Rounds. -/

theorem foldB_len : ∀ (xs : List Bh) (s : List Nat), (xs.foldl addB s).length = s.length
  | [], s => rfl
  | x :: xs, s => by rw [List.foldl_cons, foldB_len xs, addB_len]

theorem btsB_mono {t n : Nat} : ∀ (ps : List Bh) (s : List Nat), (∀ p ∈ ps, p.non.toNat < s.length) → bts t s n = true → bts t (ps.foldl addB s) n = true
  | [], s, _, h => h
  | p :: ps, s, hp, h => by
    rw [List.foldl_cons]
    refine btsB_mono ps _ (fun q hq => by rw [addB_len]; exact hp q (List.mem_cons_of_mem _ hq)) ?_
    rw [bts_addB (hp p List.mem_cons_self)]
    split <;> simp [h]

theorem btsB_same {t : Nat} : ∀ (ps : List Bh) (s : List Nat), (∀ p ∈ ps, p.non.toNat < s.length) → bts t (ps.foldl addB s) = bts t s → ∀ p ∈ ps, bB t (bts t s) p = true → bts t s p.non.toNat = true
  | [], s, _, _, p, hp, _ => by cases hp
  | q :: ps, s, hp, h, p, hm, hr => by
    rw [List.foldl_cons] at h
    have hps : ∀ p ∈ ps, p.non.toNat < (addB s q).length := fun x hx => by rw [addB_len]; exact hp x (List.mem_cons_of_mem _ hx)
    have e : bts t (addB s q) = bts t s := by
      funext n
      cases h1 : bts t s n
      · cases h2 : bts t (addB s q) n
        · rfl
        · have := btsB_mono ps _ hps h2
          rw [h, h1] at this; exact this.symm
      · rw [bts_addB (hp q List.mem_cons_self)]
        split <;> simp [h1]
    rcases List.mem_cons.1 hm with rfl | hm
    · have := bts_addB (t := t) (hp p List.mem_cons_self) p.non.toNat
      rw [e, if_pos rfl, hr, Bool.or_true] at this
      exact this
    · have := btsB_same ps (addB s q) hps (by rw [h, e]) p hm (by rw [e]; exact hr)
      rw [e] at this; exact this

theorem btsB_closed {t : Nat} : ∀ (ps : List Bh) (s : List Nat), (∀ p ∈ ps, p.non.toNat < s.length) → (∀ p ∈ ps, bB t (bts t s) p = true → bts t s p.non.toNat = true) → bts t (ps.foldl addB s) = bts t s
  | [], s, _, _ => rfl
  | q :: ps, s, hp, hc => by
    rw [List.foldl_cons]
    have e : bts t (addB s q) = bts t s := by
      funext n
      rw [bts_addB (hp q List.mem_cons_self)]
      split
      · rename_i hn
        cases h2 : bB t (bts t s) q
        · simp
        · rw [hn, hc q List.mem_cons_self h2]; rfl
      · rfl
    rw [btsB_closed ps (addB s q) (fun x hx => by rw [addB_len]; exact hp x (List.mem_cons_of_mem _ hx)) (by rw [e]; exact fun p hm => hc p (List.mem_cons_of_mem _ hm)), e]

def ClTB (l : List Bh) (t : Nat) (s : List Nat) : Prop := ∀ p ∈ l, bB t (bts t s) p = true → bts t s p.non.toNat = true

theorem roundsB_len {l : List Bh} : ∀ (k : Nat) (s : List Nat), (roundsB l k s).length = s.length
  | 0, s => rfl
  | k + 1, s => by rw [roundsB, roundsB_len k, roundB, foldB_len]

theorem ClTB.rounds {l : List Bh} {t : Nat} : ∀ (k : Nat) (s : List Nat), (∀ p ∈ l, p.non.toNat < s.length) → ClTB l t s → ClTB l t (roundsB l k s)
  | 0, s, _, h => h
  | k + 1, s, hp, h => by
    rw [roundsB]
    refine ClTB.rounds k _ (by rw [roundB, foldB_len]; exact hp) ?_
    unfold ClTB roundB
    rw [btsB_closed l s hp h]
    exact h

theorem roundsB_cl {l : List Bh} {t M : Nat} : ∀ (k : Nat) (s : List Nat), s.length = M → (∀ p ∈ l, p.non.toNat < M) → M - cntB M t s < k → ClTB l t (roundsB l k s)
  | 0, s, _, _, h => by omega
  | k + 1, s, hl, hp, h => by
    rw [roundsB]
    have hp' : ∀ p ∈ l, p.non.toNat < s.length := by rw [hl]; exact hp
    have hmono : ∀ n, bts t s n = true → bts t (roundB l s) n = true := fun n => btsB_mono l s hp'
    have hle : cntB M t s ≤ cntB M t (roundB l s) := List.countP_mono_left fun x _ => hmono x
    have hM : cntB M t (roundB l s) ≤ M := by have := List.countP_le_length (p := bts t (roundB l s)) (l := List.range M); rw [List.length_range] at this; exact this
    have hrl : (roundB l s).length = s.length := foldB_len _ _
    by_cases he : cntB M t (roundB l s) ≤ cntB M t s
    · have e : bts t (roundB l s) = bts t s := by
        funext n
        by_cases hn : n < M
        · exact countP_same (List.range M) (fun x _ => hmono x) he n (List.mem_range.2 hn)
        · have a : ∀ l : List Nat, l.length = M → bts t l n = false := fun l hl => by
            unfold bts
            rw [List.getD_eq_getElem?_getD, List.getElem?_eq_none (by omega)]; simp
          rw [a _ (by rw [hrl, hl]), a _ hl]
      have hc : ClTB l t s := btsB_same l s hp' e
      refine ClTB.rounds k _ (by rw [hrl]; exact hp') ?_
      unfold ClTB
      rw [e]; exact hc
    · exact roundsB_cl k _ (by rw [hrl, hl]) hp (by omega)

/-- What a round keeps. -/
def KeepB (g : Gr) (M : Nat) (s : List Nat) : Prop := s.length = M ∧ Lt32 s ∧ SdB (Fol g) s ∧ bts 16 s g.start.toNat = true

theorem KeepB.add {g : Gr} {M : Nat} {s : List Nat} {x : Bh} (h : KeepB g M s) (hx : x ∈ placesL g) (hi : BIn M (placesL g)) : KeepB g M (addB s x) := by
  obtain ⟨h1, h2, h3, h4⟩ := h
  obtain ⟨⟨a1, a2⟩, ⟨a4, a5⟩, a3⟩ := hi x hx
  refine ⟨by rw [addB_len]; exact h1, h2.set (moreF_lt h2 a3), h3.add hx (by omega) (by omega), ?_⟩
  rw [bts_addB (by omega)]
  split <;> simp [h4]

theorem KeepB.fold {g : Gr} {M : Nat} (hi : BIn M (placesL g)) : ∀ (xs : List Bh) (s : List Nat), (∀ x ∈ xs, x ∈ placesL g) → KeepB g M s → KeepB g M (xs.foldl addB s)
  | [], s, _, h => h
  | x :: xs, s, hx, h => by
    rw [List.foldl_cons]
    exact KeepB.fold hi xs _ (fun y hy => hx y (List.mem_cons_of_mem _ hy)) (h.add (hx x List.mem_cons_self) hi)

theorem KeepB.rounds {g : Gr} {M : Nat} (hi : BIn M (placesL g)) : ∀ (k : Nat) (s : List Nat), KeepB g M s → KeepB g M (roundsB (placesL g) k s)
  | 0, s, h => h
  | k + 1, s, h => by
    rw [roundsB]
    exact KeepB.rounds hi k _ (KeepB.fold hi _ s (fun _ h => h) h)

theorem followI_keep {g : Gr} (hr : right g = true) : KeepB g g.nons.toNat (followI g) := ⟨followI_len, followI_lt, followI_sd hr, (followI_bts hr).2 ⟨rfl, rfl⟩⟩

theorem followR_eq (g : Gr) : followR g = followL g := by
  cases hr : right g
  · simp [followR, followL, hr]
  obtain ⟨b1, b2, b3, b4, b5⟩ := follow_fin hr
  have hi := places_in hr
  have hk := KeepB.rounds hi (g.nons.toNat + 1) (followI g) (followI_keep hr)
  have hc : ClB (placesL g) (roundsB (placesL g) (g.nons.toNat + 1) (followI g)) := fun x hx t ht => roundsB_cl (M := g.nons.toNat) (g.nons.toNat + 1) (followI g) followI_len (fun p hp => by have := (hi p hp).1; omega) (by omega) x hx ht
  have e : followR g = roundsB (placesL g) (g.nons.toNat + 1) (followI g) := by rw [followR, if_pos hr]
  rw [← e] at hk hc
  obtain ⟨a1, a2, a3, a5⟩ := hk
  refine List.ext_getElem? fun n => ?_
  by_cases hn : n < g.nons.toNat
  · have e : (followR g).getD n 0 = (followL g).getD n 0 := by
      refine Nat.eq_of_testBit_eq fun t => ?_
      have h1 := bts_iff a3 hc a5 (n := n) (t := t) (by omega)
      have h2 := bts_iff b3 b4 b5 (n := n) (t := t) (by omega)
      unfold bts at h1 h2
      rw [Bool.eq_iff_iff, h1, h2]
    rw [List.getD_eq_getElem?_getD, List.getD_eq_getElem?_getD] at e
    rw [List.getElem?_eq_getElem (by omega), List.getElem?_eq_getElem (by omega)] at e ⊢
    simpa using e
  · rw [List.getElem?_eq_none (by omega), List.getElem?_eq_none (by omega)]

/-! Rows of symbols. -/

def nulL (null : List Fc) (l : List Sy) : Bool := l.all fun s => s.non && decide (rk null s.n ≠ 0)

theorem rowW_nul {sets : List Nat} {null : List Fc} : ∀ (l : List Sy) (out : Nat), (rowW sets null out l).2 = nulL null l
  | [], out => rfl
  | s :: l, out => by
    rw [rowW, nulL, List.all_cons]
    cases hn : s.non
    · simp
    · simp only [if_true, Bool.true_and]
      split
      · rename_i h; simp [h]
      · rename_i h; rw [rowW_nul l, nulL]; simp [h]

theorem rowB_append {B : Nat → Bool} {null : List Fc} {t : Nat} : ∀ (x y : List Sy), rowB B null t (x ++ y) = (rowB B null t x || (nulL null x && rowB B null t y))
  | [], y => by simp [rowB, nulL]
  | s :: x, y => by
    rw [List.cons_append, rowB, rowB, nulL, List.all_cons]
    cases hn : s.non
    · simp
    · simp only [if_true, Bool.true_and]
      rw [rowB_append x y, nulL]
      cases B s.n.toNat <;> cases decide (rk null s.n ≠ 0) <;> simp

theorem nulL_append {null : List Fc} {x y : List Sy} : nulL null (x ++ y) = (nulL null x && nulL null y) := by simp [nulL]

def fB (g : Gr) (t : Nat) : List Sy → Bool := rowB (fun n => ((firstL g).getD n 0).testBit t) (ranksL g false) t
def nB (g : Gr) : List Sy → Bool := nulL (ranksL g false)

theorem ofL_suffix {g : Gr} (hr : right g = true) {p : Pr} (hp : p ∈ g.prods) {a b : List Sy} (e : p.right = a ++ b) : ofL g b = rowW (firstL g) (ranksL g false) 0 b := by
  have h := right_there hr hp
  rw [e, List.all_append, Bool.and_eq_true] at h
  simp [ofL, hr, h.2]

theorem set_bit {g : Gr} (hr : right g = true) {p : Pr} (hp : p ∈ g.prods) {a b : List Sy} (e : p.right = a ++ b) (t : Nat) : (ofL g b).1.testBit t = fB g t b := by
  rw [ofL_suffix hr hp e, rowW_bit, Nat.zero_testBit, Bool.false_or]; rfl

theorem null_nB {g : Gr} (hr : right g = true) {p : Pr} (hp : p ∈ g.prods) {a b : List Sy} (e : p.right = a ++ b) : (ofL g b).2 = nB g b := by
  rw [ofL_suffix hr hp e, rowW_nul]; rfl

/-- What stands behind each nonterminal of a row is in its set. -/
def GoodRow (g : Gr) (row : List Sy) : Prop := ∀ a n b, row = a ++ ⟨true, n⟩ :: b → (∀ t, fB g t b = true → bts t (followL g) n.toNat = true) ∧ (nB g b = true → bts 16 (followL g) n.toNat = true)

theorem good_start {g : Gr} (hr : right g = true) : GoodRow g [⟨true, g.start⟩] := by
  obtain ⟨b1, b2, b3, b4, b5⟩ := follow_fin hr
  intro a n b e
  cases a with
  | nil =>
    simp only [List.nil_append, List.cons.injEq, Sy.mk.injEq] at e
    obtain ⟨⟨_, rfl⟩, rfl⟩ := e
    exact ⟨(fun t h => by cases h), (fun _ => b5)⟩
  | cons y a =>
    simp only [List.cons_append, List.cons.injEq] at e
    have := congrArg List.length e.2
    simp at this

/-- A row's places: ahead, in the midst, behind. -/
theorem append_split {α : Type} {a x b c d : List α} {y : α} (e : a ++ x ++ b = c ++ y :: d) :
    (∃ r, a = c ++ y :: r ∧ d = r ++ x ++ b) ∨ (∃ q r, x = q ++ y :: r ∧ d = r ++ b) ∨ (∃ q, b = q ++ y :: d ∧ c = a ++ x ++ q) := by
  rw [List.append_assoc, List.append_eq_append_iff] at e
  rcases e with ⟨u, rfl, e⟩ | ⟨u, rfl, e⟩
  · rw [List.append_eq_append_iff] at e
    rcases e with ⟨v, rfl, e⟩ | ⟨v, rfl, e⟩
    · exact .inr (.inr ⟨v, e, by simp⟩)
    · cases v with
      | nil => simp only [List.nil_append] at e; exact .inr (.inr ⟨[], by simp [e], by simp⟩)
      | cons z v =>
        simp only [List.cons_append, List.cons.injEq] at e
        obtain ⟨rfl, rfl⟩ := e
        exact .inr (.inl ⟨u, v, rfl, rfl⟩)
  · cases u with
    | nil =>
      simp only [List.nil_append] at e
      cases x with
      | nil => simp only [List.nil_append] at e; exact .inr (.inr ⟨[], by simp [e], by simp⟩)
      | cons z x =>
        simp only [List.cons_append, List.cons.injEq] at e
        obtain ⟨rfl, rfl⟩ := e
        exact .inr (.inl ⟨[], x, rfl, rfl⟩)
    | cons z u =>
      simp only [List.cons_append, List.cons.injEq] at e
      obtain ⟨rfl, rfl⟩ := e
      exact .inl ⟨u, rfl, by simp⟩

theorem nB_left {g : Gr} (hr : right g = true) {p : Pr} (hp : p ∈ g.prods) (h : nB g p.right = true) : rk (ranksL g false) p.left ≠ 0 := by
  obtain ⟨r1, ⟨bd, r2⟩, r3, r4⟩ := ranks_fin (terms := false) hr
  obtain ⟨h1, h2⟩ := right_in hr
  have hb0 : 0 ≤ bd := by have := r2 0; omega
  have := r4 (bd + 1) (by omega) p hp (fits_iff.2 fun s hs => ?_)
  · omega
  · have h3 := List.all_eq_true.1 h s hs
    simp only [Bool.and_eq_true, decide_eq_true_eq] at h3
    rw [if_pos h3.1]
    have := r2 s.n
    omega

theorem fB_left {g : Gr} (hr : right g = true) {p : Pr} (hp : p ∈ g.prods) {b : List Sy} {t : Nat} (h : fB g t (p.right ++ b) = true) : fB g t (⟨true, p.left⟩ :: b) = true := by
  obtain ⟨f1, f2, f3, f4⟩ := first_fin hr
  unfold fB at h ⊢
  rw [rowB_append, Bool.or_eq_true, Bool.and_eq_true] at h
  simp only [rowB, if_true, Bool.or_eq_true, Bool.and_eq_true, decide_eq_true_eq]
  rcases h with h | ⟨h1, h2⟩
  · exact .inl (f4 p hp t h)
  · exact .inr ⟨nB_left hr hp h1, h2⟩

theorem nB_cons {g : Gr} {n : Int} {b : List Sy} : nB g (⟨true, n⟩ :: b) = (decide (rk (ranksL g false) n ≠ 0) && nB g b) := by simp [nB, nulL]

theorem good_step {g : Gr} (hr : right g = true) {p : Pr} (hp : p ∈ g.prods) {a b : List Sy} (h : GoodRow g (a ++ ⟨true, p.left⟩ :: b)) : GoodRow g (a ++ p.right ++ b) := by
  obtain ⟨b1, b2, b3, b4, b5⟩ := follow_fin hr
  intro c n d e
  rcases append_split e with ⟨r, rfl, rfl⟩ | ⟨q, r, e1, rfl⟩ | ⟨q, rfl, rfl⟩
  · have h' := h c n (r ++ ⟨true, p.left⟩ :: b) (by simp)
    refine ⟨fun t ht => h'.1 t ?_, fun hn => h'.2 ?_⟩
    · rw [List.append_assoc] at ht
      unfold fB at ht ⊢
      rw [rowB_append, Bool.or_eq_true, Bool.and_eq_true] at ht ⊢
      rcases ht with ht | ⟨h1, h2⟩
      · exact .inl ht
      · exact .inr ⟨h1, fB_left hr hp h2⟩
    · unfold nB at hn
      rw [List.append_assoc, nulL_append, nulL_append, Bool.and_eq_true, Bool.and_eq_true] at hn
      have h0 := nB_cons (g := g) (n := p.left) (b := b)
      unfold nB at h0 ⊢
      rw [nulL_append, h0, hn.1, hn.2.2]
      simp [nB_left hr hp hn.2.1]
  · have h' := h a p.left b rfl
    have e2 : p.right = (q ++ [⟨true, n⟩]) ++ r := by rw [e1]; simp
    have hx : (⟨n, p.left, (ofL g r).1, (ofL g r).2⟩ : Bh) ∈ placesL g := mem_places.2 ⟨p, hp, q, n, r, e1, rfl⟩
    refine ⟨fun t ht => ?_, fun hn => ?_⟩
    · unfold fB at ht
      rw [rowB_append, Bool.or_eq_true, Bool.and_eq_true] at ht
      refine b4 _ hx t ?_
      simp only [bB, Bool.or_eq_true, Bool.and_eq_true]
      rcases ht with ht | ⟨h1, h2⟩
      · left; rw [set_bit hr hp e2]; exact ht
      · right; exact ⟨by rw [null_nB hr hp e2]; exact h1, h'.1 t h2⟩
    · unfold nB at hn
      rw [nulL_append, Bool.and_eq_true] at hn
      refine b4 _ hx 16 ?_
      simp only [bB, Bool.or_eq_true, Bool.and_eq_true]
      right; exact ⟨by rw [null_nB hr hp e2]; exact hn.1, h'.2 hn.2⟩
  · exact h (a ++ ⟨true, p.left⟩ :: q) n d (by simp)

theorem good_term {g : Gr} {row : List Sy} (h : GoodRow g row) {k : Nat} {n : Int} {τ : Nat} (h1 : row[k]? = some ⟨true, n⟩) (h2 : row[k + 1]? = some ⟨false, (τ : Int)⟩) : bts τ (followL g) n.toNat = true := by
  obtain ⟨k1, e1⟩ := List.getElem?_eq_some_iff.1 h1
  obtain ⟨k2, e2⟩ := List.getElem?_eq_some_iff.1 h2
  have := (h (row.take k) n (row.drop (k + 1)) (by rw [← e1, ← List.drop_eq_getElem_cons, List.take_append_drop])).1 τ
  refine this ?_
  rw [List.drop_eq_getElem_cons k2, e2]
  simp [fB, rowB]

theorem good_end {g : Gr} {row : List Sy} (h : GoodRow g row) {k : Nat} {n : Int} (h1 : row[k]? = some ⟨true, n⟩) (h2 : k + 1 = row.length) : bts 16 (followL g) n.toNat = true := by
  obtain ⟨k1, e1⟩ := List.getElem?_eq_some_iff.1 h1
  have := (h (row.take k) n (row.drop (k + 1)) (by rw [← e1, ← List.drop_eq_getElem_cons, List.take_append_drop])).2
  refine this ?_
  rw [h2, List.drop_length]
  rfl

/-- Terminals, and the end. -/
theorem fol_small {g : Gr} (hr : right g = true) {n t : Nat} (h : Fol g n t) : (t : Int) < g.terms ∨ t = 16 := by
  obtain ⟨f1, f2, f3, f4⟩ := first_fin hr
  obtain ⟨_, _, _, _, h5⟩ := right_in hr
  induction h with
  | start => exact .inr rfl
  | @set x t hx ht =>
    obtain ⟨p, hp, a, m, b, e, rfl⟩ := mem_places.1 hx
    have e2 : p.right = (a ++ [⟨true, m⟩]) ++ b := by rw [e]; simp
    rw [set_bit hr hp e2] at ht
    refine .inl (fst_term hr (row_sd (null := ranksL g false) f3 b (fun s hs => ?_) ht) fun s hs hn => ?_)
    · have h6 := (right_fin hr p hp).2 s (by rw [e]; simp [hs])
      rw [f1]; exact h6
    · have := ((h5 p hp).2.2 s (by rw [e]; simp [hs])).2
      rw [if_neg (by simp [hn])] at this
      exact this
  | null hx hn h ih => exact ih

end Go.Av
