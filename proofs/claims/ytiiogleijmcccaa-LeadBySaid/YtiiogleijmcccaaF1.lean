/-
  Layer 11: sets as numbers; the set of symbols by sets of nonterminals (the package). Conditions: none.
-/
import Derived.Test.YtiiogleijmcccaaBB
import Derived.Test.YtiiogleijmcccaaCC
namespace Go.Av
open Go.Proofs
set_option maxRecDepth 100000
set_option linter.unusedSimpArgs false
set_option linter.unusedVariables false

def eU3 (n : Nat) : List AV := [.int .u32 n]
attribute [go_sem] eU3

theorem wrapu32 {x : Int} (h1 : 0 ≤ x) (h2 : x < 4294967296) : IntKind.wrap .u32 x = x := by
  unfold IntKind.wrap
  simp only [IntKind.bits, IntKind.signed]
  simp
  omega

theorem wrapN {y : Nat} (h : y < 2 ^ 32) : IntKind.wrap .u32 (y : Int) = y := wrapu32 (by omega) (by omega)

theorem ofIntN (x : Nat) : BitVec.ofInt 32 (x : Int) = BitVec.ofNat 32 x := by
  apply BitVec.eq_of_toNat_eq
  simp [BitVec.toNat_ofInt]

theorem or32 {a b : Nat} (ha : a < 2 ^ 32) (hb : b < 2 ^ 32) : bitsOf .or .u32 (a : Int) (b : Int) = some ((a ||| b : Nat) : Int) := by
  show some (IntKind.wrap .u32 ((BitVec.ofInt 32 (a : Int) ||| BitVec.ofInt 32 (b : Int)).toNat : Int)) = _
  rw [ofIntN, ofIntN, BitVec.toNat_or, BitVec.toNat_ofNat, BitVec.toNat_ofNat, Nat.mod_eq_of_lt ha, Nat.mod_eq_of_lt hb, wrapN (Nat.or_lt_two_pow ha hb)]

theorem shl32 {t : Nat} (h : t < 32) : IntKind.wrap .u32 (1 * 2 ^ (min t 32)) = ((2 ^ t : Nat) : Int) := by
  have hp : 2 ^ t < 2 ^ 32 := Nat.pow_lt_pow_right (by decide) h
  have e : min t 32 = t := by omega
  rw [e, Int.one_mul]
  have e2 : (2 : Int) ^ t = ((2 ^ t : Nat) : Int) := by simp
  rw [e2, wrapN hp]

/-- The set of symbols, and whether all may be nothing. -/
def rowW (sets : List Nat) (null : List Fc) : Nat → List Sy → Nat × Bool
  | out, [] => (out, true)
  | out, s :: l => if s.non then (if rk null s.n = 0 then (out ||| sets.getD s.n.toNat 0, false) else rowW sets null (out ||| sets.getD s.n.toNat 0) l) else (out ||| 2 ^ s.n.toNat, false)

/-- Symbols that have places. -/
def SyIn (M : Nat) (l : List Sy) : Prop := ∀ s ∈ l, 0 ≤ s.n ∧ if s.non then s.n < M else s.n < 32

def Lt32 (sets : List Nat) : Prop := ∀ s ∈ sets, s < 2 ^ 32

theorem getD_lt {sets : List Nat} (h : Lt32 sets) (n : Nat) : sets.getD n 0 < 2 ^ 32 := by
  rw [List.getD_eq_getElem?_getD]
  cases e : sets[n]? with
  | none => decide
  | some x => exact h x (List.mem_of_getElem? e)

theorem f94 (l : List Sy) (sets : List Nat) (null : List Fc) (hl : l.length < 2 ^ 60) (hs : Lt32 sets) (hn : null.length = sets.length) (hd : SyIn sets.length l) :
    PF pg Tq 94 [.ro (l.map eSy), .ro (sets.map eU3), .ro (null.map eFc)] (.tup [.int .u32 ((rowW sets null 0 l).1 : Nat), .bool (rowW sets null 0 l).2]) := by
  have fin : FH pg Tq 94 [.ro (l.map eSy), .ro (sets.map eU3), .ro (null.map eFc)] h0 0 fun r _ _ => r = .tup [.int .u32 ((rowW sets null 0 l).1 : Nat), .bool (rowW sets null 0 l).2] := by
    refine FH.of (N := 42) (rs := #[.tmp 6, .tmp 7]) Try.func94 rfl rfl (of_decide_eq_true rfl) rfl (by decide) ?_
    refine W.rseq (k := 2) rfl fun K hK => ?_
    simp only [go_sem]
    refine hK _ _ _ ?_
    clear hK K
    refine W.rseq (k := 1) rfl fun K hK => ?_
    simp only [go_sem]
    refine hK _ _ _ ?_
    clear hK K
    refine W.seq ?_
    refine W.rseq (k := 3) rfl fun K hK => ?_
    simp only [go_sem]
    refine hK _ _ _ ?_
    clear hK K
    refine W.block (W.while (fun m t h n => ∃ (k out : Nat), m = l.length - k ∧ k ≤ l.length ∧ out < 2 ^ 32 ∧ t 1 = .ro (sets.map eU3) ∧ t 2 = .ro (null.map eFc) ∧ t 8 = .int .u32 out ∧ t 11 = .ro (l.map eSy) ∧ t 12 = .int .i64 l.length ∧ t 13 = .int .i64 k ∧ rowW sets null out (l.drop k) = rowW sets null 0 l) l.length
      ⟨0, 0, by simp, by simp, by decide, rfl, rfl, rfl, rfl, rfl, rfl, rfl⟩ fun m t h n ⟨k, out, i1, i2, i3, i4, i5, i6, i7, i8, i9, i10⟩ => ?_)
    refine W.rseq (k := 1) rfl fun K hK => ?_
    simp only [go_sem, i8, i9]
    refine hK _ _ _ ?_
    clear hK K
    refine W.seq ?_
    refine W.cond rfl (fun hc => ?_) fun hc => ?_
    · refine W.skip ?_
      simp only [go_sem]
      have hk : k < l.length := by simp at hc; omega
      obtain ⟨s, hsk⟩ := get_some hk
      have hm : s ∈ l := List.mem_of_getElem? hsk
      have hdr : l.drop k = s :: l.drop (k + 1) := by
        rw [List.drop_eq_getElem_cons hk]
        congr 1
        exact (List.getElem_eq_iff hk).2 hsk
      rw [hdr, rowW] at i10
      obtain ⟨h0', h1'⟩ := hd s hm
      obtain ⟨ν, hν⟩ : ∃ ν : Nat, s.n = ν := ⟨s.n.toNat, by omega⟩
      rw [hν] at h1' i10
      rw [Int.toNat_natCast] at i10
      refine W.seq (W.block ?_)
      refine W.rseq (k := 4) rfl fun K hK => ?_
      simp only [go_sem, i7, i9, hsk]
      refine hK _ _ _ ?_
      clear hK K
      refine W.seq ?_
      refine W.rseq (k := 3) rfl fun K hK => ?_
      simp only [go_sem]
      refine hK _ _ _ ?_
      clear hK K
      cases hsn : s.non
      · rw [hsn] at h1' i10
        simp only [Bool.false_eq_true, if_false] at h1' i10
        refine W.condT (by simp only [go_sem, hsn]) ?_
        refine W.rseq (k := 7) rfl fun K hK => ?_
        simp only [go_sem, i6, hν, shl32 (show ν < 32 by omega), or32 i3 (Nat.pow_lt_pow_right (by decide) (show ν < 32 by omega))]
        refine hK _ _ _ ?_
        clear hK K
        refine W.ret ?_
        simp only [go_sem]
        rw [← i10]
      · rw [hsn] at h1' i10
        simp only [if_true] at h1' i10
        refine W.condF (by simp only [go_sem, hsn]) ?_
        refine W.skip ?_
        simp only [go_sem]
        have hνM : ν < sets.length := by omega
        have hgs : sets[ν]? = some (sets.getD ν 0) := by simp [hνM]
        have hlt := getD_lt hs ν
        obtain ⟨b, hb⟩ := fc_get (l := null) (n := (ν : Int)) (by omega) (by omega)
        have hb' : null[ν]? = some (rk null ν, b) := by simpa using hb
        have hor := Nat.or_lt_two_pow i3 hlt
        refine W.rseq (k := 8) rfl fun K hK => ?_
        simp only [go_sem, i4, i6, hν, hgs, or32 i3 hlt]
        refine hK _ _ _ ?_
        clear hK K
        refine W.rseq (k := 7) rfl fun K hK => ?_
        simp only [go_sem, i5, hν, hb']
        refine hK _ _ _ ?_
        clear hK K
        by_cases hz : rk null ν = 0
        · rw [if_pos hz] at i10
          refine W.condT (by simp only [go_sem, hz]) ?_
          refine W.rseq (k := 3) rfl fun K hK => ?_
          simp only [go_sem]
          refine hK _ _ _ ?_
          clear hK K
          refine W.ret ?_
          simp only [go_sem]
          rw [← i10]
        · rw [if_neg hz] at i10
          refine W.condF (by simp only [go_sem, hz]) ?_
          refine W.skip ?_
          simp only [go_sem]
          refine W.region (k := 2) rfl ?_
          simp only [go_sem, i9]
          refine ⟨l.length - (k + 1), by omega, k + 1, _, rfl, by omega, hor, i4, i5, rfl, i7, i8, ?_, i10⟩
          rw [wrap64 (by omega) (by omega)]; rfl
    · refine W.exit ?_
      simp only [go_sem]
      have hk : k = l.length := by simp at hc; omega
      subst hk
      rw [List.drop_length, rowW] at i10
      refine W.rseq (k := 3) rfl fun K hK => ?_
      simp only [go_sem, i6]
      refine hK _ _ _ ?_
      clear hK K
      refine W.ret ?_
      simp only [go_sem]
      rw [← i10]
  obtain ⟨r, h', n', hb, rfl⟩ := fin
  exact ⟨_, h', n', hb, 3, fun fr => by simp [rf, rfs]⟩

end Go.Av

