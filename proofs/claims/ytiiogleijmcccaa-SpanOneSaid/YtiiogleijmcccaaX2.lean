/-
  Layer 16: rows; a step. Conditions: none.
-/
import Derived.Test.YtiiogleijmcccaaX1
import Derived.Test.YtiiogleijmcccaaF4
namespace Go.Av
open Go.Proofs
set_option maxRecDepth 100000
set_option linter.unusedSimpArgs false
set_option linter.unusedVariables false

/-- A row: its ends, and (24) over which it goes on. -/
def eRw (f : Nat → Nat) : List AV := (List.range 25).map fun t => .int .u32 (f t : Nat)

theorem eR_len {f : Nat → Nat} : (eRw f).length = 25 := by simp [eRw]
theorem eR_scal {f : Nat → Nat} : (eRw f).all scal = true := by simp [eRw, scal]
theorem eR_zero : List.replicate 25 (AV.int .u32 0) = eRw fun _ => 0 := rfl
theorem eR_tk {f : Nat → Nat} : (eRw f).take 25 = eRw f := List.take_of_length_le (by rw [eR_len]; exact Nat.le_refl _)
theorem eR_dz : List.drop 25 ([.int .u32 0, .int .u32 0, .int .u32 0, .int .u32 0, .int .u32 0, .int .u32 0, .int .u32 0, .int .u32 0, .int .u32 0, .int .u32 0, .int .u32 0, .int .u32 0, .int .u32 0, .int .u32 0, .int .u32 0, .int .u32 0, .int .u32 0, .int .u32 0, .int .u32 0, .int .u32 0, .int .u32 0, .int .u32 0, .int .u32 0, .int .u32 0, .int .u32 0] : List AV) = [] := rfl
theorem eR_z : ([.int .u32 0, .int .u32 0, .int .u32 0, .int .u32 0, .int .u32 0, .int .u32 0, .int .u32 0, .int .u32 0, .int .u32 0, .int .u32 0, .int .u32 0, .int .u32 0, .int .u32 0, .int .u32 0, .int .u32 0, .int .u32 0, .int .u32 0, .int .u32 0, .int .u32 0, .int .u32 0, .int .u32 0, .int .u32 0, .int .u32 0, .int .u32 0, .int .u32 0] : List AV) = eRw fun _ => 0 := rfl
theorem eR_get {f : Nat → Nat} {t : Nat} (h : t < 25) : ((eRw f).drop t).take 1 = [.int .u32 (f t : Nat)] := by
  have e : (eRw f)[t]? = some (.int .u32 (f t : Nat)) := by simp [eRw, h]
  rw [List.take_one, List.head?_drop, e]; rfl

theorem eR_over {f : Nat → Nat} {t v : Nat} (h : t < 25) : (eRw f).take t ++ (.int .u32 (v : Nat) :: (eRw f).drop (t + 1)) = eRw (fun x => if x = t then v else f x) := by
  refine List.ext_getElem? fun i => ?_
  rw [List.getElem?_append]
  have hl : ((eRw f).take t).length = t := by rw [List.length_take, eR_len]; omega
  rw [hl]
  by_cases h1 : i < t
  · rw [if_pos h1, List.getElem?_take_of_lt h1]
    simp [eRw, show i < 25 by omega, show ¬ i = t by omega]
  · rw [if_neg h1]
    by_cases h2 : i = t
    · subst h2; simp [eRw, h]
    · obtain ⟨j, hj⟩ : ∃ j, i - t = j + 1 := ⟨i - t - 1, by omega⟩
      rw [hj, List.getElem?_cons_succ, List.getElem?_drop, show t + 1 + j = i by omega]
      by_cases h3 : i < 25
      · simp [eRw, h3, h2]
      · rw [List.getElem?_eq_none (by rw [eR_len]; omega), List.getElem?_eq_none (by rw [eR_len]; omega)]

theorem rfs_in {fr : Bool} {d : Nat} {h : Heap} {f : Nat → Nat} : ∀ l : List Nat, rfs fr (d + 2) h (l.map fun t => .int .u32 (f t : Nat)) = some (l.map fun t => .int .u32 (f t : Nat))
  | [] => rfs_nil
  | x :: l => rfs_cons (by simp [rf]) (rfs_in l)

theorem rfs_rw {fr : Bool} {d : Nat} {h : Heap} {f : Nat → Nat} : rfs fr (d + 2) h (eRw f) = some (eRw f) := rfs_in _

theorem shlw {x t : Nat} (h : t < 32) : IntKind.wrap .u32 ((x : Int) * 2 ^ (min t 32)) = ((x * 2 ^ t % 2 ^ 32 : Nat) : Int) := by
  rw [Nat.min_eq_left (by omega)]
  have e2 : (x : Int) * (2 : Int) ^ t = ((x * 2 ^ t : Nat) : Int) := by simp
  rw [e2]
  unfold IntKind.wrap
  simp only [IntKind.bits, IntKind.signed]
  simp

def rowAt (rows : List (Nat → Nat)) (j : Nat) : Nat → Nat := rows.getD j fun _ => 0

theorem row_get {rows : List (Nat → Nat)} {j : Nat} (h : j < rows.length) : rows[j]? = some (rowAt rows j) := by
  simp [rowAt, h]

/-- Rows that may be. -/
def RwIn (rows : List (Nat → Nat)) : Prop := ∀ j i, rowAt rows j i < 2 ^ 32

set_option maxHeartbeats 4000000 in
theorem f145 (f : Nat → Nat) (non : Bool) (ν k : Nat) (hν : ν < 24) (hk : k < 32) : PF pg Tq 145 [.agg (eRw f), .agg [.bool non, .int .i64 ν], .int .i64 k] (.int .u32 ((f ν * 2 ^ k % 2 ^ 32 : Nat) : Int)) := by
  refine Fi ?_
  refine FH.of (N := 14) (rs := #[.tmp 6]) Try.func145 rfl rfl (of_decide_eq_true rfl) rfl (by decide) ?_
  refine W.rseq (k := 3) rfl fun K hK => ?_
  simp only [go_sem, eR_scal]
  refine hK _ _ _ ?_
  clear hK K
  refine W.rseq (k := 8) rfl fun K hK => ?_
  simp only [go_sem, eR_len, eR_get (show ν < 25 by omega), Nat.mul_one, show (ν : Int) < 24 by omega, shlw hk, show ν + 1 ≤ 25 by omega]
  refine hK _ _ _ ?_
  clear hK K
  refine W.ret ?_
  simp only [go_sem]

def overB (s : Sy) (frm : Nat) (rows : List (Nat → Nat)) : Bool := s.non && (List.range rows.length).any fun a => frm.testBit a && (rowAt rows a 24).testBit s.n.toNat

set_option maxHeartbeats 4000000 in
theorem f134 (s : Sy) (frm : Nat) (hf : frm < 2 ^ 32) (rows : List (Nat → Nat)) (hr : rows.length ≤ 31) (hrw : RwIn rows) (hs : s.non = true → 0 ≤ s.n ∧ s.n < 24) : PF pg Tq 134 [.agg (eSy s), .int .u32 frm, .ro (rows.map eRw)] (.bool (overB s frm rows)) := by
  refine Fb ?_
  refine FH.of (N := 35) (rs := #[.tmp 6]) Try.func134 rfl rfl (of_decide_eq_true rfl) rfl (by decide) ?_
  refine W.rseq (k := 2) rfl fun K hK => ?_
  simp only [go_sem]
  refine hK _ _ _ ?_
  clear hK K
  refine W.seq ?_
  refine W.rseq (k := 3) rfl fun K hK => ?_
  simp only [go_sem]
  refine hK _ _ _ ?_
  clear hK K
  refine W.block (W.while (fun m t h n => ∃ j : Nat, m = rows.length - j ∧ j ≤ rows.length ∧ 0 < n ∧ (s.non = true → ∀ a, a < j → (frm.testBit a && (rowAt rows a 24).testBit s.n.toNat) = false) ∧ h 0 = some (.cells [eSy s]) ∧ (t 1 = .int .u32 frm ∧ t 3 = .ptr 0 0 0 ∧ t 9 = .ro (rows.map eRw) ∧ t 10 = .int .i64 rows.length) ∧ t 11 = .int .i64 j) rows.length
    ⟨0, by simp, by simp, by omega, fun _ a ha => by omega, by simp only [go_sem], ⟨rfl, rfl, rfl, by simp only [go_sem]⟩, rfl⟩ fun m t h n ⟨j, i1, i2, i3, i4, i5, i6, i7⟩ => ?_)
  have i6' := i6
  obtain ⟨a1, a3, a9, a10⟩ := i6'
  refine W.rseq (k := 1) rfl fun K hK => ?_
  simp only [go_sem, a10, i7]
  refine hK _ _ _ ?_
  clear hK K
  refine W.seq ?_
  refine W.cond rfl (fun hc => ?_) fun hc => ?_
  · refine W.skip ?_
    simp only [go_sem]
    have hj : j < rows.length := by simp at hc; omega
    have hg := row_get hj
    have z0 : ∀ j, ¬ 0 = n + j := fun j => by omega
    refine W.seqk fun K hK => ?_
    have nx : ∀ (t' : Fr) (h' : Heap) (n' : Nat), 0 < n' → (s.non = true → (frm.testBit j && (rowAt rows j 24).testBit s.n.toNat) = false) → h' 0 = some (.cells [eSy s]) → (t' 1 = .int .u32 frm ∧ t' 3 = .ptr 0 0 0 ∧ t' 9 = .ro (rows.map eRw) ∧ t' 10 = .int .i64 rows.length) → t' 11 = .int .i64 j → K t' h' n' := by
      intro t' h' n' e1 e2 e3 e4 e5
      refine hK _ _ _ ?_
      clear hK K
      refine W.region (k := 2) rfl ?_
      simp only [go_sem, e5]
      refine ⟨rows.length - (j + 1), by omega, j + 1, rfl, by omega, by omega, fun hn a ha => ?_, e3, e4, ?_⟩
      · by_cases e : a = j
        · rw [e]; exact e2 hn
        · exact i4 hn a (by omega)
      · rw [wrap64 (by omega) (by omega)]; rfl
    clear hK
    refine W.block ?_
    refine W.rseq (k := 6) rfl fun K hK => ?_
    simp only [go_sem, a9, i7, hg, eR_len, eR_scal, eR_tk, eR_dz, List.append_nil]
    refine hK _ _ _ ?_
    clear hK K
    refine W.rseq (k := 18) rfl fun K hK => ?_
    have hw1 := shr32 (x := frm) (show j < 32 by omega)
    have hw2 := and32 (x := frm / 2 ^ j) (Nat.lt_of_le_of_lt (Nat.div_le_self _ _) hf)
    cases hn : s.non
    · simp only [go_sem, a3, i5, z0, hn]
      refine hK _ _ _ ?_
      first | clear hK K | clear hK | skip
      refine W.condF (by simp only [go_sem]) ?_
      refine W.skip ?_
      simp only [go_sem]
      exact nx _ _ _ (by omega) (fun e => by rw [hn] at e; cases e) (by simp only [go_sem, z0, i5]) i6 i7
    obtain ⟨hs1, hs2⟩ := hs hn
    obtain ⟨ν, hν⟩ : ∃ ν : Nat, s.n = ν := ⟨s.n.toNat, by omega⟩
    have hνt : s.n.toNat = ν := by omega
    rw [hνt] at nx
    have hw3 := shr32 (x := rowAt rows j 24) (show ν < 32 by omega)
    have hw4 := and32 (x := rowAt rows j 24 / 2 ^ ν) (Nat.lt_of_le_of_lt (Nat.div_le_self _ _) (hrw j 24))
    cases hb : frm.testBit j
    · simp only [go_sem, a3, i5, z0, hn, a1, hw1, hw2, bit_is1, hb]
      refine hK _ _ _ ?_
      first | clear hK K | clear hK | skip
      refine W.condF (by simp only [go_sem]) ?_
      refine W.skip ?_
      simp only [go_sem]
      exact nx _ _ _ (by omega) (fun _ => by rw [hb]; rfl) (by simp only [go_sem, z0, i5]) i6 i7
    · simp only [go_sem, a3, i5, z0, hn, a1, hw1, hw2, bit_is1, hb, eR_len, eR_get (show 24 < 25 by omega), hν, hw3, hw4]
      refine hK _ _ _ ?_
      first | clear hK K | clear hK | skip
      cases hb2 : (rowAt rows j 24).testBit ν
      · refine W.condF (by simp only [go_sem, hb2]) ?_
        refine W.skip ?_
        simp only [go_sem]
        exact nx _ _ _ (by omega) (fun _ => by rw [hb, hb2]; rfl) (by simp only [go_sem, z0, i5]) i6 i7
      · refine W.condT (by simp only [go_sem, hb2]) ?_
        refine W.rseq (k := 1) rfl fun K hK => ?_
        simp only [go_sem]
        refine hK _ _ _ ?_
        clear hK K
        refine W.ret ?_
        simp only [go_sem]
        rw [overB, hn, Bool.true_and, eq_comm]
        refine congrArg AV.bool (List.any_eq_true.2 ⟨j, List.mem_range.2 hj, ?_⟩)
        rw [hb, hνt, hb2]; rfl
  · refine W.exit ?_
    simp only [go_sem]
    have hj : j = rows.length := by simp at hc; omega
    refine W.rseq (k := 1) rfl fun K hK => ?_
    simp only [go_sem]
    refine hK _ _ _ ?_
    clear hK K
    refine W.ret ?_
    simp only [go_sem]
    rw [overB]
    cases hn : s.non
    · rfl
    · rw [Bool.true_and, eq_comm, List.any_eq_false.2]
      intro a ha
      rw [i4 hn a (by rw [hj]; exact List.mem_range.1 ha)]
      simp

/-- Where a symbol ends that begins at one of some places below j. -/
def stepN (s : Sy) (frm : Nat) (w : List Int) (rows : List (Nat → Nat)) : Nat → Nat
  | 0 => 0
  | j + 1 => if frm.testBit j then (if s.non then stepN s frm w rows j ||| (rowAt rows j s.n.toNat * 2 ^ j % 2 ^ 32) else if w[j]? = some s.n then stepN s frm w rows j ||| 2 ^ (j + 1) else stepN s frm w rows j) else stepN s frm w rows j

def stepF (s : Sy) (frm : Nat) (w : List Int) (rows : List (Nat → Nat)) : Nat := stepN s frm w rows rows.length

theorem stepN_lt {s : Sy} {frm : Nat} {w : List Int} {rows : List (Nat → Nat)} : ∀ j, j ≤ 31 → stepN s frm w rows j < 2 ^ 32
  | 0, _ => by rw [stepN]; decide
  | j + 1, hj => by
    have ih := stepN_lt (s := s) (frm := frm) (w := w) (rows := rows) j (by omega)
    rw [stepN]
    split
    · split
      · exact Nat.or_lt_two_pow ih (Nat.mod_lt _ (by decide))
      · split
        · exact Nat.or_lt_two_pow ih (Nat.pow_lt_pow_right (by decide) (by omega))
        · exact ih
    · exact ih

theorem stepN_bit {s : Sy} {frm : Nat} {w : List Int} {rows : List (Nat → Nat)} {c : Nat} (hc : c < 32) : ∀ j, (stepN s frm w rows j).testBit c = true ↔ ∃ a, a < j ∧ frm.testBit a = true ∧ ((s.non = true ∧ a ≤ c ∧ (rowAt rows a s.n.toNat).testBit (c - a) = true) ∨ (s.non = false ∧ w[a]? = some s.n ∧ c = a + 1))
  | 0 => by
    rw [stepN]
    simp
  | j + 1 => by
    have ih := stepN_bit (s := s) (frm := frm) (w := w) (rows := rows) hc j
    have key : (stepN s frm w rows (j + 1)).testBit c = true ↔ (stepN s frm w rows j).testBit c = true ∨ (frm.testBit j = true ∧ ((s.non = true ∧ j ≤ c ∧ (rowAt rows j s.n.toNat).testBit (c - j) = true) ∨ (s.non = false ∧ w[j]? = some s.n ∧ c = j + 1))) := by
      rw [stepN]
      cases hb : frm.testBit j
      · simp
      · cases hn : s.non
        · by_cases hw : w[j]? = some s.n
          · simp only [hw, if_true, Bool.false_eq_true, if_false, Nat.testBit_or, Nat.testBit_two_pow, Bool.or_eq_true, decide_eq_true_eq, true_and, false_and, false_or]
            constructor
            · rintro (h | h)
              · exact .inl h
              · exact .inr h.symm
            · rintro (h | h)
              · exact .inl h
              · exact .inr h.symm
          · simp [hw]
        · simp only [if_true, Nat.testBit_or, Nat.testBit_mod_two_pow, Bool.or_eq_true, Bool.and_eq_true, decide_eq_true_eq, hc, true_and]
          rw [Nat.mul_comm, Nat.testBit_two_pow_mul]
          simp [ge_iff_le]
    rw [key, ih]
    constructor
    · rintro (⟨a, h1, h2, h3⟩ | ⟨h2, h3⟩)
      · exact ⟨a, by omega, h2, h3⟩
      · exact ⟨j, by omega, h2, h3⟩
    · rintro ⟨a, h1, h2, h3⟩
      by_cases e : a = j
      · subst e; exact .inr ⟨h2, h3⟩
      · exact .inl ⟨a, by omega, h2, h3⟩

set_option maxHeartbeats 8000000 in
theorem f135 (s : Sy) (frm : Nat) (hf : frm < 2 ^ 32) (w : List Int) (hw : w.length ≤ 30) (rows : List (Nat → Nat)) (hr : rows.length ≤ 31) (hrw : RwIn rows) (hs : s.non = true → 0 ≤ s.n ∧ s.n < 24) : PF pg Tq 135 [.agg (eSy s), .int .u32 frm, .ro (w.map eIn), .ro (rows.map eRw)] (.int .u32 (stepF s frm w rows : Nat)) := by
  refine Fi ?_
  refine FH.of (N := 55) (rs := #[.tmp 8]) Try.func135 rfl rfl (of_decide_eq_true rfl) rfl (by decide) ?_
  refine W.rseq (k := 2) rfl fun K hK => ?_
  simp only [go_sem]
  refine hK _ _ _ ?_
  clear hK K
  refine W.rseq (k := 1) rfl fun K hK => ?_
  simp only [go_sem]
  refine hK _ _ _ ?_
  clear hK K
  refine W.seqk fun K hK => ?_
  refine W.rseq (k := 3) rfl fun K hK => ?_
  simp only [go_sem]
  refine hK _ _ _ ?_
  clear hK K
  have nx0 : ∀ (t' : Fr) (h' : Heap) (n' : Nat), t' 9 = .int .u32 (stepF s frm w rows : Nat) → K t' h' n' := by
    intro t' h' n' e1
    refine hK _ _ _ ?_
    clear hK K
    refine W.rseq (k := 2) rfl fun K hK => ?_
    simp only [go_sem, e1]
    refine hK _ _ _ ?_
    clear hK K
    refine W.ret ?_
    simp only [go_sem]
  clear hK
  refine W.block (W.while (fun m t h n => ∃ j : Nat, m = rows.length - j ∧ j ≤ rows.length ∧ 0 < n ∧ h 0 = some (.cells [eSy s]) ∧ (t 1 = .int .u32 frm ∧ t 2 = .ro (w.map eIn) ∧ t 3 = .ro (rows.map eRw) ∧ t 4 = .ptr 0 0 0 ∧ t 12 = .int .i64 rows.length) ∧ t 13 = .int .i64 j ∧ t 9 = .int .u32 (stepN s frm w rows j : Nat)) rows.length
    ⟨0, by simp, by simp, by omega, by simp only [go_sem], ⟨rfl, rfl, rfl, rfl, by simp only [go_sem]⟩, rfl, rfl⟩ fun m t h n ⟨j, i1, i2, i3, i5, i6, i7, i8⟩ => ?_)
  have i6' := i6
  obtain ⟨a1, a2, a3, a4, a12⟩ := i6'
  refine W.rseq (k := 1) rfl fun K hK => ?_
  simp only [go_sem, a12, i7]
  refine hK _ _ _ ?_
  clear hK K
  refine W.seq ?_
  refine W.cond rfl (fun hc => ?_) fun hc => ?_
  · refine W.skip ?_
    simp only [go_sem]
    have hj : j < rows.length := by simp at hc; omega
    have hg := row_get hj
    have z0 : ∀ j, ¬ 0 = n + j := fun j => by omega
    have l0 : ∀ j, (0 < n + j) = True := fun j => eq_true (by omega)
    have hlt := stepN_lt (s := s) (frm := frm) (w := w) (rows := rows) j (by omega)
    have hst : stepN s frm w rows (j + 1) = if frm.testBit j then (if s.non then stepN s frm w rows j ||| (rowAt rows j s.n.toNat * 2 ^ j % 2 ^ 32) else if w[j]? = some s.n then stepN s frm w rows j ||| 2 ^ (j + 1) else stepN s frm w rows j) else stepN s frm w rows j := rfl
    refine W.seqk fun K hK => ?_
    have nx : ∀ (t' : Fr) (h' : Heap) (n' : Nat), 0 < n' → h' 0 = some (.cells [eSy s]) → (t' 1 = .int .u32 frm ∧ t' 2 = .ro (w.map eIn) ∧ t' 3 = .ro (rows.map eRw) ∧ t' 4 = .ptr 0 0 0 ∧ t' 12 = .int .i64 rows.length) → t' 13 = .int .i64 j → t' 9 = .int .u32 (stepN s frm w rows (j + 1) : Nat) → K t' h' n' := by
      intro t' h' n' e1 e2 e3 e4 e5
      refine hK _ _ _ ?_
      clear hK K
      refine W.region (k := 2) rfl ?_
      simp only [go_sem, e4]
      refine ⟨rows.length - (j + 1), by omega, j + 1, rfl, by omega, by omega, e2, e3, ?_, e5⟩
      rw [wrap64 (by omega) (by omega)]; rfl
    clear hK
    have hw1 := shr32 (x := frm) (show j < 32 by omega)
    have hw2 := and32 (x := frm / 2 ^ j) (Nat.lt_of_le_of_lt (Nat.div_le_self _ _) hf)
    refine W.block ?_
    refine W.rseq (k := 2) rfl fun K hK => ?_
    simp only [go_sem, i7]
    refine hK _ _ _ ?_
    clear hK K
    refine W.block ?_
    refine W.rseq (k := 6) rfl fun K hK => ?_
    simp only [go_sem, a1, hw1, hw2, bit_zero]
    refine hK _ _ _ ?_
    clear hK K
    cases hb : frm.testBit j
    · rw [hb] at hst
      simp only [Bool.false_eq_true, if_false] at hst
      refine W.condT (by simp only [go_sem, hb]) ?_
      refine W.skip ?_
      simp only [go_sem]
      exact nx _ _ _ (by omega) i5 i6 i7 (by rw [hst]; exact i8)
    rw [hb] at hst
    simp only [if_true] at hst
    refine W.condF (by simp only [go_sem, hb]) ?_
    refine W.rseq (k := 3) rfl fun K hK => ?_
    simp only [go_sem, a4, i5]
    refine hK _ _ _ ?_
    clear hK K
    cases hn : s.non
    · rw [hn] at hst
      simp only [Bool.false_eq_true, if_false] at hst
      refine W.condF (by simp only [go_sem, hn]) ?_
      refine W.dseq (k := 14) rfl fun K hK => ?_
      by_cases hjw : j < w.length
      · obtain ⟨x, hx⟩ := get_some hjw
        by_cases hxs : x = s.n
        · simp only [go_sem, a2, a4, i5, l0, hx, decide_eq_true (show (j : Int) < (w.length : Int) by omega), decide_eq_true hxs]
          refine hK _ _ _ _ (by kernel_rfl) ?_
          clear hK K
          refine W.condT (by simp only [go_sem]) ?_
          rw [hx, hxs, if_pos rfl] at hst
          refine W.region (k := 6) rfl ?_
          simp only [go_sem, i8, wrap64 (show -9223372036854775808 ≤ (j : Int) + 1 by omega) (by omega), show (0 : Int) ≤ (j : Int) + 1 by omega, show ((j : Int) + 1).toNat = j + 1 by omega, shl32 (show j + 1 < 32 by omega), or32 hlt (Nat.pow_lt_pow_right (by decide) (show j + 1 < 32 by omega))]
          exact nx _ _ _ (by omega) i5 i6 i7 (by rw [hst]; rfl)
        · simp only [go_sem, a2, a4, i5, l0, hx, decide_eq_true (show (j : Int) < (w.length : Int) by omega), decide_eq_false hxs]
          refine hK _ _ _ _ (by kernel_rfl) ?_
          clear hK K
          refine W.condF (by simp only [go_sem]) ?_
          refine W.skip ?_
          simp only [go_sem]
          rw [if_neg (by rw [hx]; intro e; cases e; exact hxs rfl)] at hst
          exact nx _ _ _ (by omega) i5 i6 i7 (by rw [hst]; exact i8)
      · simp only [go_sem, a2, decide_eq_false (show ¬ (j : Int) < (w.length : Int) by omega)]
        refine hK _ _ _ _ (by kernel_rfl) ?_
        clear hK K
        refine W.condF (by simp only [go_sem]) ?_
        refine W.skip ?_
        simp only [go_sem]
        rw [if_neg (by rw [List.getElem?_eq_none (by omega)]; intro e; cases e)] at hst
        exact nx _ _ _ (by omega) i5 i6 i7 (by rw [hst]; exact i8)
    · rw [hn] at hst
      simp only [if_true] at hst
      obtain ⟨hs1, hs2⟩ := hs hn
      obtain ⟨ν, hν⟩ : ∃ ν : Nat, s.n = ν := ⟨s.n.toNat, by omega⟩
      have hνt : s.n.toNat = ν := by omega
      rw [hνt] at hst
      refine W.condT (by simp only [go_sem, hn]) ?_
      have hor := or32 hlt (Nat.mod_lt (rowAt rows j ν * 2 ^ j) (show 0 < 2 ^ 32 by decide))
      refine W.draw (k := 10) rfl ?_
      simp only [go_sem, i8, a3, a4, i5, l0, hg, eR_len, eR_tk, hν]
      refine VCall.frz 6 (f145 (rowAt rows j) s.non ν j (by omega) (by omega)) ?_ ?_
      · exact rfs_cons (by simp [rf, rfs_rw]) (rfs_cons rfl (rfs_cons rfl rfs_nil))
      simp only [go_sem, hor]
      refine ⟨by kernel_rfl, ?_⟩
      exact nx _ _ _ (by omega) i5 i6 i7 (by rw [hst]; rfl)
  · refine W.exit ?_
    simp only [go_sem]
    have hj : j = rows.length := by simp at hc; omega
    rw [hj] at i8
    exact nx0 _ _ _ i8

end Go.Av

