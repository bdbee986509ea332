/-
  Layer 11, the document's answer: sets as rows of bools. Conditions: none.
-/
import Derived.Test.YtiiogleijmcccaaF3
namespace Go.Av
open Go.Proofs
set_option maxRecDepth 100000
set_option linter.unusedSimpArgs false
set_option linter.unusedVariables false

/-- Thirty-two bools. -/
def cB (f : Nat → Bool) : List AV := (List.range 32).map fun t => .bool (f t)

def eSt (n : Nat) : List AV := cB n.testBit

theorem cB_len {f : Nat → Bool} : (cB f).length = 32 := by simp [cB]
theorem cB_scal {f : Nat → Bool} : (cB f).all scal = true := by simp [cB, scal]
theorem cB_get {f : Nat → Bool} {t : Nat} (h : t < 32) : ((cB f).drop t).take 1 = [.bool (f t)] := by
  have e : (cB f)[t]? = some (.bool (f t)) := by simp [cB, h]
  rw [List.take_one, List.head?_drop, e]; rfl

theorem cB_over {f : Nat → Bool} {t : Nat} {b : Bool} (h : t < 32) : (cB f).take t ++ (.bool b :: (cB f).drop (t + 1)) = cB (fun x => if x = t then b else f x) := by
  refine List.ext_getElem? fun i => ?_
  rw [List.getElem?_append]
  have hl : ((cB f).take t).length = t := by rw [List.length_take, cB_len]; omega
  rw [hl]
  by_cases h1 : i < t
  · rw [if_pos h1, List.getElem?_take_of_lt h1]
    simp [cB, show i < 32 by omega, show ¬ i = t by omega]
  · rw [if_neg h1]
    by_cases h2 : i = t
    · subst h2; simp [cB, h]
    · obtain ⟨j, hj⟩ : ∃ j, i - t = j + 1 := ⟨i - t - 1, by omega⟩
      rw [hj, List.getElem?_cons_succ, List.getElem?_drop, show t + 1 + j = i by omega]
      by_cases h3 : i < 32
      · simp [cB, h3, h2]
      · rw [List.getElem?_eq_none (by rw [cB_len]; omega), List.getElem?_eq_none (by rw [cB_len]; omega)]

theorem div_bit (n k : Nat) : n / 2 ^ k = 2 * (n / 2 ^ (k + 1)) + (n.testBit k).toNat := by
  rw [Nat.pow_succ, ← Nat.div_div_eq_div_mul, Nat.testBit_eq_decide_div_mod_eq]
  have := Nat.div_add_mod (n / 2 ^ k) 2
  have h2 := Nat.mod_lt (n / 2 ^ k) (show 0 < 2 by decide)
  by_cases h : n / 2 ^ k % 2 = 1
  · simp [h]; omega
  · simp [h]; omega

theorem f50 (s : Nat) (hs : s < 2 ^ 32) : PF pg Tq 50 [.agg (eSt s)] (.int .u32 (s : Nat)) := by
  refine Fi ?_
  have hall : (eSt s).all scal = true := cB_scal
  refine FH.of (N := 17) (rs := #[.tmp 2]) Try.func50 rfl rfl (of_decide_eq_true rfl) rfl (by decide) ?_
  refine W.rseq (k := 2) rfl fun K hK => ?_
  simp only [go_sem, hall]
  refine hK _ _ _ ?_
  clear hK K
  refine W.rseq (k := 1) rfl fun K hK => ?_
  simp only [go_sem]
  refine hK _ _ _ ?_
  clear hK K
  refine W.seq ?_
  refine W.rseq (k := 1) rfl fun K hK => ?_
  simp only [go_sem]
  refine hK _ _ _ ?_
  clear hK K
  refine W.block (W.while (fun m t h n => ∃ k : Nat, m = k ∧ k ≤ 32 ∧ t 1 = .ptr 0 0 0 ∧ t 3 = .int .u32 ((s / 2 ^ k : Nat) : Int) ∧ t 4 = .int .i64 ((k : Int) - 1) ∧ h 0 = some (.cells [eSt s])) 32
    ⟨32, rfl, by omega, rfl, by rw [Nat.div_eq_of_lt hs]; rfl, rfl, by simp only [go_sem]⟩ fun m t h n ⟨k, i1, i2, i3, i4, i5, i6⟩ => ?_)
  refine W.seq ?_
  refine W.rseq (k := 2) rfl fun K hK => ?_
  simp only [go_sem, i5]
  refine hK _ _ _ ?_
  clear hK K
  refine W.cond rfl (fun hc => ?_) fun hc => ?_
  · refine W.skip ?_
    simp only [go_sem]
    obtain ⟨j, rfl⟩ : ∃ j, k = j + 1 := ⟨k - 1, by simp at hc; omega⟩
    have e4 : t 4 = .int .i64 (j : Int) := by rw [i5]; congr 1; omega
    clear i5 hc
    have hd := div_bit s j
    have hlt : s / 2 ^ j ≤ s := Nat.div_le_self _ _
    have hw : IntKind.wrap .u32 (2 * ((s / 2 ^ (j + 1) : Nat) : Int)) = ((2 * (s / 2 ^ (j + 1)) : Nat) : Int) := by rw [wrapu32 (by omega) (by omega)]; omega
    refine W.seq (W.block ?_)
    have hlen : (eSt s).length = 32 := cB_len
    have hget : ((eSt s).drop j).take 1 = [.bool (s.testBit j)] := cB_get (by omega)
    refine W.rseq (k := 3) rfl fun K hK => ?_
    simp only [go_sem, i4, hw]
    refine hK _ _ _ ?_
    clear hK K
    refine W.rseq (k := 3) rfl fun K hK => ?_
    simp only [go_sem, e4, i3, i6, hlen, hget, show (j : Int) < 32 by omega, Nat.mul_one, show j ≤ 31 by omega]
    refine hK _ _ _ ?_
    clear hK K
    cases hb : s.testBit j
    · rw [hb] at hd
      refine W.condF (by simp only [go_sem]) ?_
      refine W.skip ?_
      simp only [go_sem]
      refine W.region (k := 3) rfl ?_
      simp only [go_sem, e4]
      refine ⟨j, by omega, j, rfl, by omega, i3, ?_, ?_, ?_⟩
      · rw [hd]; simp
      · rw [wrap64 (by omega) (by omega)]
      · simp only [go_sem, i6]
    · rw [hb] at hd
      refine W.condT (by simp only [go_sem]) ?_
      have hw2 : IntKind.wrap .u32 (((2 * (s / 2 ^ (j + 1)) : Nat) : Int) + 1) = ((s / 2 ^ j : Nat) : Int) := by rw [wrapu32 (by omega) (by simp at hd; omega)]; simp at hd; omega
      refine W.region (k := 3) rfl ?_
      simp only [go_sem, hw2]
      refine W.region (k := 3) rfl ?_
      simp only [go_sem, e4]
      refine ⟨j, by omega, j, rfl, by omega, i3, ?_, ?_, ?_⟩
      · simp only [go_sem]
      · rw [wrap64 (by omega) (by omega)]
      · simp only [go_sem, i6]
  · refine W.exit ?_
    simp only [go_sem]
    have hk : k = 0 := by simp at hc; omega
    subst hk
    refine W.rseq (k := 2) rfl fun K hK => ?_
    simp only [go_sem, i4]
    refine hK _ _ _ ?_
    clear hK K
    refine W.ret ?_
    simp only [go_sem]
    simp

theorem rfs_bl {fr : Bool} {d : Nat} {h : Heap} {f : Nat → Bool} : ∀ l : List Nat, rfs fr (d + 2) h (l.map fun t => .bool (f t)) = some (l.map fun t => .bool (f t))
  | [] => rfs_nil
  | x :: l => rfs_cons (by simp [rf]) (rfs_bl l)

theorem rfs_st {fr : Bool} {d : Nat} {h : Heap} {x : Nat} : rfs fr (d + 2) h (eSt x) = some (eSt x) := rfs_bl _

theorem rf_st {fr : Bool} {d : Nat} {h : Heap} {x : Nat} : rf fr (d + 3) h (.agg (eSt x)) = some (.agg (eSt x)) := by simp [rf, rfs_st]

theorem rfe_st {fr : Bool} {d : Nat} {h : Heap} {l : List Nat} : rfe fr (d + 3) h (l.map eSt) = some (l.map eSt) := rfe_map fun x _ => rfs_st

theorem f46 (sets : List Nat) (hs : Lt32 sets) (hl : sets.length < 2 ^ 40) : FH pg Tq 46 [.ro (sets.map eSt)] h0 0 fun r h _ => OwnU3 sets r h := by
  refine FH.of (N := 21) (rs := #[.tmp 2]) Try.func46 rfl rfl (of_decide_eq_true rfl) rfl (by decide) ?_
  refine W.rseq (k := 1) rfl fun K hK => ?_
  simp only [go_sem]
  refine hK _ _ _ ?_
  clear hK K
  refine W.rseq (k := 2) rfl fun K hK => ?_
  simp only [go_sem]
  refine hK _ _ _ ?_
  clear hK K
  refine W.seq ?_
  refine W.rseq (k := 1) rfl fun K hK => ?_
  simp only [go_sem]
  refine hK _ _ _ ?_
  clear hK K
  refine W.block (W.while (fun m t h n => ∃ k : Nat, m = sets.length - k ∧ k ≤ sets.length ∧ t 0 = .ro (sets.map eSt) ∧ t 4 = .int .i64 k ∧ ((k = 0 ∧ t 3 = .nils) ∨ ∃ b, t 3 = .sl b 0 k 1 ∧ b < n ∧ h b = some (.cells ((sets.take k).map eU3)))) sets.length
    ⟨0, by simp, by simp, rfl, rfl, .inl ⟨rfl, rfl⟩⟩ fun m t h n ⟨k, i1, i2, i3, i4, i5⟩ => ?_)
  refine W.seq ?_
  refine W.rseq (k := 4) rfl fun K hK => ?_
  simp only [go_sem, i3, i4]
  refine hK _ _ _ ?_
  clear hK K
  refine W.cond rfl (fun hc => ?_) fun hc => ?_
  · refine W.skip ?_
    simp only [go_sem]
    have hk : k < sets.length := by simp at hc; omega
    obtain ⟨x, hx⟩ := get_some hk
    have hx32 := hs x (List.mem_of_getElem? hx)
    have hsl : (eSt x).length = 32 := cB_len
    have htk : (sets.take (k + 1)).map eU3 = (sets.take k).map eU3 ++ [eU3 x] := by
      rw [List.take_add_one, hx, List.map_append]; rfl
    refine W.seq (W.block ?_)
    rcases i5 with ⟨rfl, e3⟩ | ⟨b, e3, b1, b2⟩
    · refine W.region (k := 9) rfl ?_
      simp only [go_sem, i3, i4, e3, hx, hsl, ne_eq, not_false_eq_true, Int.reduceEq, show (0 : Nat) < 1 by omega, show (0 : Nat) < 4 by omega]
      refine VCall.frz 6 (f50 x hx32) (rfs_cons rf_st rfs_nil) ?_
      try simp only [go_sem, i3, i4, e3, hx, hsl, ne_eq, not_false_eq_true, Int.reduceEq, show (0 : Nat) < 1 by omega, show (0 : Nat) < 4 by omega]
      refine W.region (k := 3) rfl ?_
      simp only [go_sem, i4]
      refine ⟨sets.length - 1, by omega, 1, rfl, by omega, i3, ?_, .inr ⟨_, rfl, by omega, ?_⟩⟩
      · rfl
      · rw [htk]; simp [upd, eU3]
    · have hbl : ((sets.take k).map eU3).length = k := by rw [List.length_map, List.length_take]; omega
      refine W.region (k := 9) rfl ?_
      simp only [go_sem, i3, i4, e3, b2, hx, hsl, hbl, List.length_map, List.length_take, Nat.min_eq_left i2, ne_eq, not_false_eq_true, Int.reduceEq, show (0 : Nat) < 1 by omega, show (0 : Nat) < 4 by omega, show (k + 1) * 4 ≤ 140737488355328 by omega, show ¬ (k + 1 ≤ k) by omega, show ∀ j, ¬ (b = n + j) from fun j => by omega]
      refine VCall.frz 6 (f50 x hx32) (rfs_cons rf_st rfs_nil) ?_
      try simp only [go_sem, i3, i4, e3, b2, hx, hsl, hbl, List.length_map, List.length_take, Nat.min_eq_left i2, ne_eq, not_false_eq_true, Int.reduceEq, show (0 : Nat) < 1 by omega, show (0 : Nat) < 4 by omega, show (k + 1) * 4 ≤ 140737488355328 by omega, show ¬ (k + 1 ≤ k) by omega, show ∀ j, ¬ (b = n + j) from fun j => by omega]
      refine W.region (k := 3) rfl ?_
      simp only [go_sem, i4]
      refine ⟨sets.length - (k + 1), by omega, k + 1, rfl, by omega, i3, ?_, .inr ⟨_, rfl, by omega, ?_⟩⟩
      · rw [wrap64 (by omega) (by omega)]; rfl
      · rw [htk]; simp [upd, eU3]
  · refine W.exit ?_
    simp only [go_sem]
    have hk : k = sets.length := by simp at hc; omega
    subst hk
    refine W.rseq (k := 2) rfl fun K hK => ?_
    simp only [go_sem]
    refine hK _ _ _ ?_
    clear hK K
    refine W.ret ?_
    simp only [go_sem]
    rcases i5 with ⟨e0, e3⟩ | ⟨b, e3, b1, b2⟩
    · exact .inl ⟨List.eq_nil_of_length_eq_zero e0, .inl e3⟩
    · rw [List.take_length] at b2
      exact .inr ⟨b, e3, b2⟩

end Go.Av

