/-
  Layer 17, package lead: what a leader looks at. Conditions: none.
-/
import Derived.Test.YtiiogleijmcccaaX8
namespace Go.Av
open Go.Proofs
set_option maxRecDepth 100000
set_option linter.unusedSimpArgs false
set_option linter.unusedVariables false

/-- A symbol that is left, and from which places. -/
abbrev Lt := Sy × Nat

def eTd (x : Lt) : List AV := [.bool x.1.non, .int .i64 x.1.n, .int .u32 (x.2 : Nat)]

/-- A leader. -/
def eLd (g : Gr) (w : List Int) (rows : List (Nat → Nat)) (kind : Int) (tv : AV) (a : Nat) (ov : AV) : List AV :=
  [.int .i64 g.terms, .int .i64 g.nons, .int .i64 g.start, .ro (g.prods.map ePr), .ro (w.map eIn), .ro (rows.map eRw), .int .i64 kind, tv, .int .i64 (a : Nat), ov]

def lastG (w : List Int) : List Lt → Nat
  | [] => 2 ^ w.length
  | x :: _ => x.2

def isB (w : List Int) (rows : List (Nat → Nat)) (kind : Int) (s : Sy) (good j : Nat) : Bool :=
  (if s.non = true then !decide ((rowAt rows j s.n.toNat * 2 ^ j % 2 ^ 32) &&& good = 0) || (decide (kind = 2) && (rowAt rows j 24).testBit s.n.toNat)
    else decide (w[j]? = some s.n) && good.testBit (j + 1))
  || (decide (kind = 2) && decide (j = w.length))

def aheadJ (w : List Int) (rows : List (Nat → Nat)) (kind : Int) (s : Sy) (good : Nat) : Nat → Nat
  | 0 => 0
  | j + 1 => if isB w rows kind s good j = true then aheadJ w rows kind s good j ||| 2 ^ j else aheadJ w rows kind s good j

def aheadN (w : List Int) (rows : List (Nat → Nat)) (kind : Int) (s : Sy) (good : Nat) : Nat := aheadJ w rows kind s good rows.length

theorem aheadJ_lt {w : List Int} {rows : List (Nat → Nat)} {kind : Int} {s : Sy} {good : Nat} : ∀ j, j ≤ 32 → aheadJ w rows kind s good j < 2 ^ 32
  | 0, _ => by rw [aheadJ]; decide
  | j + 1, h => by
    have := aheadJ_lt (w := w) (rows := rows) (kind := kind) (s := s) (good := good) j (by omega)
    rw [aheadJ]
    split
    · exact Nat.or_lt_two_pow this (Nat.pow_lt_pow_right (by decide) (by omega))
    · exact this

theorem and32g {a b : Nat} (ha : a < 2 ^ 32) (hb : b < 2 ^ 32) : bitsOf .and .u32 (a : Int) (b : Int) = some ((a &&& b : Nat) : Int) := by
  show some (IntKind.wrap .u32 ((BitVec.ofInt 32 (a : Int) &&& BitVec.ofInt 32 (b : Int)).toNat : Int)) = _
  rw [ofIntN, ofIntN, BitVec.toNat_and, BitVec.toNat_ofNat, BitVec.toNat_ofNat, Nat.mod_eq_of_lt ha, Nat.mod_eq_of_lt hb, wrapN (Nat.lt_of_le_of_lt Nat.and_le_left ha)]

theorem f114 (g : Gr) (w : List Int) (rows : List (Nat → Nat)) (kind : Int) (tv : AV) (a : Nat) (ov : AV) (hw : w.length < 32) : PF pg Tq 114 [.rp (eLd g w rows kind tv a ov) 0] (.int .u32 (2 ^ w.length : Nat)) := by
  refine Fi ?_
  refine FH.of (N := 9) (rs := #[.tmp 2]) Try.func114 rfl rfl (of_decide_eq_true rfl) rfl (by decide) ?_
  refine W.rseq (k := 1) rfl fun K hK => ?_
  simp only [go_sem]
  refine hK _ _ _ ?_
  clear hK K
  refine W.rseq (k := 7) rfl fun K hK => ?_
  simp only [go_sem, eLd, List.length_map, shl32 hw]
  refine hK _ _ _ ?_
  clear hK K
  refine W.ret ?_
  simp only [go_sem]

set_option maxHeartbeats 4000000 in
theorem f150 (g : Gr) (w : List Int) (rows : List (Nat → Nat)) (kind : Int) (T : List Lt) (a : Nat) (ov : AV) (hw : w.length < 32) (hT : T.length < 2 ^ 40) : PF pg Tq 150 [.rp (eLd g w rows kind (.ro (T.reverse.map eTd)) a ov) 0] (.int .u32 (lastG w T : Nat)) := by
  refine Fi ?_
  refine FH.of (N := 24) (rs := #[.tmp 2]) Try.func150 rfl rfl (of_decide_eq_true rfl) rfl (by decide) ?_
  refine W.rseq (k := 1) rfl fun K hK => ?_
  simp only [go_sem]
  refine hK _ _ _ ?_
  clear hK K
  refine W.seq ?_
  cases T with
  | nil =>
    refine W.rseq (k := 6) rfl fun K hK => ?_
    simp only [go_sem, eLd, List.reverse_nil, List.map_nil, List.length_nil]
    refine hK _ _ _ ?_
    clear hK K
    refine W.condT (by simp only [go_sem]) ?_
    refine W.rseq (k := 3) rfl fun K hK => ?_
    simp only [go_sem]
    refine VCall.frz 6 (f114 g w rows kind _ a ov hw) rfl ?_
    try simp only [go_sem]
    refine hK _ _ _ ?_
    clear hK K
    refine W.ret ?_
    simp only [go_sem]
    rfl
  | cons x T =>
    have hlen : ((x :: T).reverse.map eTd).length = T.length + 1 := by simp
    have hget : ((x :: T).reverse.map eTd)[T.length]? = some (eTd x) := by rw [List.getElem?_map, List.getElem?_reverse (by simp)]; simp
    have hw2 : IntKind.wrap .i64 (((T.length + 1 : Nat) : Int) - 1) = (T.length : Int) := by
      rw [List.length_cons] at hT
      rw [wrap64 (by omega) (by omega)]; omega
    refine W.rseq (k := 6) rfl fun K hK => ?_
    simp only [go_sem, eLd, hlen, show decide (((T.length + 1 : Nat) : Int) = 0) = false from decide_eq_false (by omega)]
    refine hK _ _ _ ?_
    clear hK K
    refine W.condF (by simp only [go_sem]) ?_
    refine W.skip ?_
    simp only [go_sem]
    refine W.dseq (k := 14) rfl fun K hK => ?_
    simp only [go_sem, eLd, hlen, hw2, hget, eTd]
    refine hK _ _ _ _ (by kernel_rfl) ?_
    clear hK K
    refine W.ret ?_
    simp only [go_sem]
    rfl

set_option maxHeartbeats 4000000 in
theorem f115 (g : Gr) (w : List Int) (rows : List (Nat → Nat)) (kind : Int) (tv : AV) (T : List Lt) (a : Nat) (ov : AV) (hw : w.length < 32) (hT : T.length < 2 ^ 40) (ha : a < 32) (hl : lastG w T < 2 ^ 32) : PF pg Tq 115 [.rp (eLd g w rows kind tv a ov) 0, .ro (T.reverse.map eTd)] (.bool ((lastG w T).testBit a)) := by
  refine Fb ?_
  refine FH.of (N := 26) (rs := #[.tmp 4]) Try.func115 rfl rfl (of_decide_eq_true rfl) rfl (by decide) ?_
  refine W.rseq (k := 1) rfl fun K hK => ?_
  simp only [go_sem]
  refine hK _ _ _ ?_
  clear hK K
  refine W.rseq (k := 3) rfl fun K hK => ?_
  simp only [go_sem]
  refine VCall.frz 6 (f114 g w rows kind tv a ov hw) rfl ?_
  try simp only [go_sem]
  refine hK _ _ _ ?_
  clear hK K
  refine W.seqk fun K hK => ?_
  have nx : ∀ (t' : Fr) (h' : Heap) (n' : Nat), t' 0 = .rp (eLd g w rows kind tv a ov) 0 → t' 5 = .int .u32 (lastG w T : Nat) → K t' h' n' := by
    intro t' h' n' e1 e2
    refine hK _ _ _ ?_
    clear hK K
    have hw1 := shr32 (x := lastG w T) (show a < 32 by omega)
    have hw2 := and32 (x := lastG w T / 2 ^ a) (Nat.lt_of_le_of_lt (Nat.div_le_self _ _) hl)
    refine W.rseq (k := 9) rfl fun K hK => ?_
    simp only [go_sem, e1, e2, eLd, hw1, hw2, bit_is1]
    refine hK _ _ _ ?_
    clear hK K
    refine W.ret ?_
    simp only [go_sem]
  clear hK
  cases T with
  | nil =>
    refine W.rseq (k := 3) rfl fun K hK => ?_
    simp only [go_sem, List.reverse_nil, List.map_nil, List.length_nil]
    refine hK _ _ _ ?_
    clear hK K
    refine W.condF (by simp only [go_sem]) ?_
    refine W.skip ?_
    simp only [go_sem]
    exact nx _ _ _ rfl rfl
  | cons x T =>
    have hlen : ((x :: T).reverse.map eTd).length = T.length + 1 := by simp
    have hget : ((x :: T).reverse.map eTd)[T.length]? = some (eTd x) := by rw [List.getElem?_map, List.getElem?_reverse (by simp)]; simp
    have hw2 : IntKind.wrap .i64 (((T.length + 1 : Nat) : Int) - 1) = (T.length : Int) := by
      rw [List.length_cons] at hT
      rw [wrap64 (by omega) (by omega)]; omega
    refine W.rseq (k := 3) rfl fun K hK => ?_
    simp only [go_sem, hlen]
    refine hK _ _ _ ?_
    clear hK K
    refine W.condT (by simp only [go_sem]; exact congrArg (fun b => some (AV.bool b)) (decide_eq_true (by omega))) ?_
    refine W.region (k := 8) rfl ?_
    simp only [go_sem, hlen, hw2, hget, eTd]
    exact nx _ _ _ rfl rfl

set_option maxHeartbeats 16000000 in
theorem f113 (g : Gr) (w : List Int) (rows : List (Nat → Nat)) (kind : Int) (tv : AV) (a : Nat) (ov : AV) (s : Sy) (good : Nat) (hw : rows.length = w.length + 1) (hr : rows.length ≤ 30) (hrw : RwIn rows) (hg : good < 2 ^ 32) (hs : s.non = true → 0 ≤ s.n ∧ s.n < 24) :
    PF pg Tq 113 [.rp (eLd g w rows kind tv a ov) 0, .agg (eSy s), .int .u32 (good : Nat)] (.int .u32 (aheadN w rows kind s good : Nat)) := by
  refine Fi ?_
  refine FH.of (N := 99) (rs := #[.tmp 6]) Try.func113 rfl rfl (of_decide_eq_true rfl) rfl (by decide) ?_
  refine W.rseq (k := 2) rfl fun K hK => ?_
  simp only [go_sem]
  refine hK _ _ _ ?_
  clear hK K
  refine W.rseq (k := 1) rfl fun K hK => ?_
  simp only [go_sem]
  refine hK _ _ _ ?_
  clear hK K
  refine W.seq ?_
  refine W.rseq (k := 6) rfl fun K hK => ?_
  simp only [go_sem, eLd, List.length_map]
  refine hK _ _ _ ?_
  clear hK K
  refine W.block (W.while (fun m t h n => ∃ j : Nat, m = rows.length - j ∧ j ≤ rows.length ∧ 0 < n ∧ h 0 = some (.cells [eSy s]) ∧ (t 0 = .rp (eLd g w rows kind tv a ov) 0 ∧ t 2 = .int .u32 (good : Nat) ∧ t 4 = .ptr 0 0 0 ∧ t 14 = .ro (rows.map eRw) ∧ t 15 = .int .i64 rows.length) ∧ t 7 = .int .u32 (aheadJ w rows kind s good j : Nat) ∧ t 16 = .int .i64 j) rows.length
    ⟨0, by simp, by simp, by omega, by simp only [go_sem], ⟨rfl, rfl, rfl, rfl, rfl⟩, rfl, rfl⟩ fun m t h n ⟨j, i1, i2, i3, i4, i5, i6, i7⟩ => ?_)
  have i5' := i5
  obtain ⟨a0, a2, a4, a14, a15⟩ := i5'
  refine W.rseq (k := 1) rfl fun K hK => ?_
  simp only [go_sem, a15, i7]
  refine hK _ _ _ ?_
  clear hK K
  refine W.seq ?_
  refine W.cond rfl (fun hc => ?_) fun hc => ?_
  · refine W.skip ?_
    simp only [go_sem]
    have hj : j < rows.length := by simp at hc; omega
    have hgr := row_get hj
    have z0 : ∀ j, ¬ 0 = n + j := fun j => by omega
    refine W.seqk fun K hK => ?_
    have nx : ∀ (t' : Fr) (h' : Heap) (n' : Nat), 0 < n' → h' 0 = some (.cells [eSy s]) → (t' 0 = .rp (eLd g w rows kind tv a ov) 0 ∧ t' 2 = .int .u32 (good : Nat) ∧ t' 4 = .ptr 0 0 0 ∧ t' 14 = .ro (rows.map eRw) ∧ t' 15 = .int .i64 rows.length) → t' 7 = .int .u32 (aheadJ w rows kind s good (j + 1) : Nat) → t' 16 = .int .i64 j → K t' h' n' := by
      intro t' h' n' e1 e2 e3 e4 e5
      refine hK _ _ _ ?_
      clear hK K
      refine W.region (k := 2) rfl ?_
      simp only [go_sem, e5]
      refine ⟨rows.length - (j + 1), by omega, j + 1, rfl, by omega, by omega, e2, e3, e4, ?_⟩
      rw [wrap64 (by omega) (by omega)]; rfl
    clear hK
    refine W.block ?_
    refine W.rseq (k := 6) rfl fun K hK => ?_
    simp only [go_sem, a14, i7, hgr, eR_len, eR_scal, eR_tk, eR_dz, List.append_nil]
    refine hK _ _ _ ?_
    clear hK K
    refine W.rseq (k := 1) rfl fun K hK => ?_
    simp only [go_sem]
    refine hK _ _ _ ?_
    clear hK K
    refine W.seqk fun K hK => ?_
    have nx2 : ∀ (t' : Fr) (h' : Heap) (n' : Nat) (b : Bool), 0 < n' → h' 0 = some (.cells [eSy s]) → (t' 0 = .rp (eLd g w rows kind tv a ov) 0 ∧ t' 2 = .int .u32 (good : Nat) ∧ t' 4 = .ptr 0 0 0 ∧ t' 14 = .ro (rows.map eRw) ∧ t' 15 = .int .i64 rows.length) → t' 7 = .int .u32 (aheadJ w rows kind s good j : Nat) → t' 16 = .int .i64 j → t' 8 = .int .i64 j → t' 10 = .bool b → isB w rows kind s good j = (b || (decide (kind = 2) && decide (j = w.length))) → K t' h' n' := by
      intro t' h' n' b e1 e2 e3 e4 e5 e6 e7 e8
      refine hK _ _ _ ?_
      clear hK K
      have e3' := e3
      obtain ⟨c0, c2, c4, c14, c15⟩ := e3'
      refine W.rseq (k := 17) rfl fun K hK => ?_
      have cnd : ∀ (t2 : Fr) (b' : Bool), t2 92 = .bool b' → isB w rows kind s good j = b' → (t2 0 = .rp (eLd g w rows kind tv a ov) 0 ∧ t2 2 = .int .u32 (good : Nat) ∧ t2 4 = .ptr 0 0 0 ∧ t2 14 = .ro (rows.map eRw) ∧ t2 15 = .int .i64 rows.length) → t2 7 = .int .u32 (aheadJ w rows kind s good j : Nat) → t2 16 = .int .i64 j → t2 8 = .int .i64 j → K t2 h' (n' + 17) := by
        intro t2 b' q1 q2 q3 q4 q5 q6
        refine hK _ _ _ ?_
        clear hK K
        cases b'
        · refine W.condF (by simp only [go_sem, q1]) ?_
          refine W.skip ?_
          simp only [go_sem]
          exact nx _ _ _ (by omega) e2 q3 (by rw [aheadJ, q2, if_neg (by decide)]; exact q4) q5
        · refine W.condT (by simp only [go_sem, q1]) ?_
          have hsh := shl32 (t := j) (by omega)
          have hor := or32 (aheadJ_lt (w := w) (rows := rows) (kind := kind) (s := s) (good := good) j (by omega)) (Nat.pow_lt_pow_right (show 1 < 2 by decide) (show j < 32 by omega))
          refine W.region (k := 5) rfl ?_
          simp only [go_sem, q4, q6, hsh, hor]
          exact nx _ _ _ (by omega) e2 q3 (by rw [aheadJ, q2, if_pos rfl]; rfl) q5
      clear hK
      cases b with
      | true =>
        simp only [go_sem, e7]
        exact cnd _ true rfl (by rw [e8]; rfl) e3 e4 e5 e6
      | false =>
        by_cases hk : kind = 2
        · by_cases hjw : j = w.length
          · simp only [go_sem, e7, c0, eLd, decide_eq_true hk, e6, List.length_map, decide_eq_true (show (j : Int) = (w.length : Int) by omega)]
            exact cnd _ true rfl (by rw [e8, decide_eq_true hk, decide_eq_true hjw]; rfl) e3 e4 e5 e6
          · simp only [go_sem, e7, c0, eLd, decide_eq_true hk, e6, List.length_map, decide_eq_false (show ¬ (j : Int) = (w.length : Int) by omega)]
            exact cnd _ false rfl (by rw [e8, decide_eq_true hk, decide_eq_false hjw]; rfl) e3 e4 e5 e6
        · simp only [go_sem, e7, c0, eLd, decide_eq_false hk]
          exact cnd _ false rfl (by rw [e8, decide_eq_false hk]; rfl) e3 e4 e5 e6
    clear hK
    refine W.block ?_
    have hj31 : j < 31 := by omega
    cases hn : s.non
    · refine W.rseq (k := 3) rfl fun K hK => ?_
      simp only [go_sem, i4, a4, z0, hn]
      refine hK _ _ _ ?_
      clear hK K
      refine W.condF (by simp only [go_sem]) ?_
      have hwj : IntKind.wrap .i64 ((j : Int) + 1) = ((j + 1 : Nat) : Int) := by rw [wrap64 (by omega) (by omega)]; rfl
      have hw1 := shr32 (x := good) (show j + 1 < 32 by omega)
      have hw2 := and32 (x := good / 2 ^ (j + 1)) (Nat.lt_of_le_of_lt (Nat.div_le_self _ _) hg)
      refine W.rseq (k := 8) rfl fun K hK => ?_
      simp only [go_sem, a0, eLd, List.length_map]
      refine hK _ _ _ ?_
      clear hK K
      by_cases hjw : j < w.length
      · obtain ⟨x, hx⟩ := get_some hjw
        refine W.condT (by simp only [go_sem]; exact congrArg (fun b => some (AV.bool b)) (decide_eq_true (by omega))) ?_
        refine W.draw (k := 19) rfl ?_
        by_cases hxs : x = s.n
        · simp only [go_sem, a0, eLd, hx, eIn, a4, i4, z0, hn, decide_eq_true hxs, a2, hwj, hw1, hw2, bit_is1, show (0 : Int) ≤ ((j + 1 : Nat) : Int) by omega, if_true, Int.toNat_natCast]
          refine ⟨by kernel_rfl, ?_⟩
          refine nx2 _ _ _ (good.testBit (j + 1)) (by omega) (by simp only [go_sem, z0, i4, hn]) i5 i6 i7 rfl rfl ?_
          rw [isB, hn, if_neg (by decide), hx, decide_eq_true (congrArg some hxs), Bool.true_and]
        · simp only [go_sem, a0, eLd, hx, eIn, a4, i4, z0, hn, decide_eq_false hxs]
          refine ⟨by kernel_rfl, ?_⟩
          refine nx2 _ _ _ false (by omega) (by simp only [go_sem, z0, i4, hn]) i5 i6 i7 rfl rfl ?_
          rw [isB, hn, if_neg (by decide), hx, decide_eq_false (fun e => hxs (by injection e)), Bool.false_and]
      · refine W.condF (by simp only [go_sem]; exact congrArg (fun b => some (AV.bool b)) (decide_eq_false (by omega))) ?_
        refine W.skip ?_
        simp only [go_sem]
        refine nx2 _ _ _ false (by omega) (by simp only [go_sem, z0, i4, hn]) i5 i6 i7 rfl rfl ?_
        rw [isB, hn, if_neg (by decide), List.getElem?_eq_none (by omega), decide_eq_false (fun e => by cases e), Bool.false_and]
    · refine W.rseq (k := 3) rfl fun K hK => ?_
      simp only [go_sem, i4, a4, z0, hn]
      refine hK _ _ _ ?_
      clear hK K
      refine W.condT (by simp only [go_sem]) ?_
      obtain ⟨hs1, hs2⟩ := hs hn
      obtain ⟨ν, hν⟩ : ∃ ν : Nat, s.n = ν := ⟨s.n.toNat, by omega⟩
      have hνt : s.n.toNat = ν := by omega
      have hsl := shlw (x := rowAt rows j ν) (show j < 32 by omega)
      have han := and32g (a := rowAt rows j ν * 2 ^ j % 2 ^ 32) (Nat.mod_lt _ (by decide)) hg
      have hw3 := shr32 (x := rowAt rows j 24) (show ν < 32 by omega)
      have hw4 := and32 (x := rowAt rows j 24 / 2 ^ ν) (Nat.lt_of_le_of_lt (Nat.div_le_self _ _) (hrw j 24))
      refine W.region (k := 27) rfl ?_
      by_cases hX : (rowAt rows j ν * 2 ^ j % 2 ^ 32) &&& good = 0
      · by_cases hk : kind = 2
        · simp only [go_sem, a4, i4, z0, hn, hν, eR_len, eR_get (show ν < 25 by omega), eR_get (show 24 < 25 by omega), show (ν : Int) < 24 by omega, Nat.mul_one, show ν + 1 ≤ 25 by omega, hsl, a2, han, decide_eq_true (show (((rowAt rows j ν * 2 ^ j % 2 ^ 32) &&& good : Nat) : Int) = 0 by omega), a0, eLd, decide_eq_true hk, hw3, hw4, bit_is1]
          refine nx2 _ _ _ ((rowAt rows j 24).testBit ν) (by omega) (by simp only [go_sem, z0, i4, hn]) i5 i6 i7 rfl rfl ?_
          rw [isB, hn, if_pos rfl, hνt, decide_eq_true hX, decide_eq_true hk]; rfl
        · simp only [go_sem, a4, i4, z0, hn, hν, eR_len, eR_get (show ν < 25 by omega), show (ν : Int) < 24 by omega, Nat.mul_one, show ν + 1 ≤ 25 by omega, hsl, a2, han, decide_eq_true (show (((rowAt rows j ν * 2 ^ j % 2 ^ 32) &&& good : Nat) : Int) = 0 by omega), a0, eLd, decide_eq_false hk]
          refine nx2 _ _ _ false (by omega) (by simp only [go_sem, z0, i4, hn]) i5 i6 i7 rfl rfl ?_
          rw [isB, hn, if_pos rfl, hνt, decide_eq_true hX, decide_eq_false hk]; rfl
      · simp only [go_sem, a4, i4, z0, hn, hν, eR_len, eR_get (show ν < 25 by omega), show (ν : Int) < 24 by omega, Nat.mul_one, show ν + 1 ≤ 25 by omega, hsl, a2, han, decide_eq_false (show ¬ (((rowAt rows j ν * 2 ^ j % 2 ^ 32) &&& good : Nat) : Int) = 0 by omega)]
        refine nx2 _ _ _ true (by omega) (by simp only [go_sem, z0, i4, hn]) i5 i6 i7 rfl rfl ?_
        rw [isB, hn, if_pos rfl, hνt, decide_eq_false hX]; rfl
  · refine W.exit ?_
    simp only [go_sem]
    have hj : j = rows.length := by simp at hc; omega
    rw [hj] at i6
    refine W.rseq (k := 2) rfl fun K hK => ?_
    simp only [go_sem, i6]
    refine hK _ _ _ ?_
    clear hK K
    refine W.ret ?_
    simp only [go_sem]
    rfl

end Go.Av

