/-
  Layer 15: are lists the same, which stands ahead; nodes. Conditions: none.
-/
import Derived.Test.YtiiogleijmcccaaT7
import Derived.Test.YtiiogleijmcccaaF6
namespace Go.Av
open Go.Proofs
set_option maxRecDepth 100000
set_option linter.unusedSimpArgs false
set_option linter.unusedVariables false

theorem f59 (a b : List Int) (ha : a.length < 2 ^ 60) (hb : b.length < 2 ^ 60) : PF pg Tq 59 [.ro (a.map eIn), .ro (b.map eIn)] (.bool (a == b)) := by
  refine Fb ?_
  refine FH.of (N := 26) (rs := #[.tmp 4]) Try.func59 rfl rfl (of_decide_eq_true rfl) rfl (by decide) ?_
  refine W.rseq (k := 1) rfl fun K hK => ?_
  simp only [go_sem]
  refine hK _ _ _ ?_
  clear hK K
  refine W.seq ?_
  refine W.rseq (k := 5) rfl fun K hK => ?_
  simp only [go_sem]
  refine hK _ _ _ ?_
  clear hK K
  refine W.cond rfl (fun hc => ?_) fun hc => ?_
  · refine W.rseq (k := 1) rfl fun K hK => ?_
    simp only [go_sem]
    refine hK _ _ _ ?_
    clear hK K
    refine W.ret ?_
    simp only [go_sem]
    have : ¬ a = b := by rintro rfl; simp at hc
    simp [this]
  refine W.skip ?_
  simp only [go_sem]
  have hl : a.length = b.length := by simp at hc; omega
  refine W.seq ?_
  refine W.rseq (k := 1) rfl fun K hK => ?_
  simp only [go_sem]
  refine hK _ _ _ ?_
  clear hK K
  refine W.block (W.while (fun m t h n => ∃ k : Nat, m = a.length - k ∧ k ≤ a.length ∧ t 0 = .ro (a.map eIn) ∧ t 1 = .ro (b.map eIn) ∧ t 5 = .int .i64 k ∧ a.take k = b.take k) a.length ⟨0, by simp, by simp, rfl, rfl, rfl, by simp⟩ fun m t h n ⟨k, e1, e2, e3, e4, e5, e6⟩ => ?_)
  clear hc
  refine W.seq ?_
  refine W.rseq (k := 4) rfl fun K hK => ?_
  simp only [go_sem, e3, e4, e5]
  refine hK _ _ _ ?_
  clear hK K
  refine W.cond rfl (fun hc => ?_) fun hc => ?_
  · refine W.skip ?_
    simp only [go_sem]
    have hk : k < a.length := by simp at hc; omega
    obtain ⟨fa, hfa⟩ := get_some hk
    obtain ⟨fb, hfb⟩ := get_some (hl ▸ hk : k < b.length)
    refine W.seq (W.block ?_)
    refine W.dseq (k := 9) rfl fun K hK => ?_
    simp only [go_sem, e3, e4, e5, hfa, hfb]
    refine hK _ _ _ _ (by kernel_rfl) ?_
    clear hK K
    refine W.cond rfl (fun hc2 => ?_) fun hc2 => ?_
    · refine W.rseq (k := 1) rfl fun K hK => ?_
      simp only [go_sem]
      refine hK _ _ _ ?_
      clear hK K
      refine W.ret ?_
      simp only [go_sem]
      have : ¬ a = b := by
        rintro rfl
        rw [hfa] at hfb
        cases hfb
        simp at hc2
      simp [this]
    · refine W.skip ?_
      simp only [go_sem]
      refine W.region (k := 3) rfl ?_
      simp only [go_sem, e5]
      refine ⟨a.length - (k + 1), by omega, k + 1, rfl, by omega, e3, e4, ?_, ?_⟩
      · rw [wrap64 (by omega) (by omega)]; rfl
      · simp at hc2
        rw [List.take_add_one, List.take_add_one, e6, hfa, hfb]
        have : fa = fb := by omega
        rw [this]
  · refine W.exit ?_
    simp only [go_sem]
    have hk : ¬ k < a.length := by simp at hc; omega
    refine W.rseq (k := 1) rfl fun K hK => ?_
    simp only [go_sem]
    refine hK _ _ _ ?_
    clear hK K
    refine W.ret ?_
    simp only [go_sem]
    have : a = b := by
      rw [List.take_of_length_le (by omega), List.take_of_length_le (by omega)] at e6
      exact e6
    simp [this]

theorem f143 (x : Int) : PF pg Tq 143 [.int .i64 x] (.bool false) := by
  refine Fb ?_
  refine FH.of (N := 6) (rs := #[.tmp 2]) Try.func143 rfl rfl (of_decide_eq_true rfl) rfl (by decide) ?_
  refine W.rseq (k := 1) rfl fun K hK => ?_
  simp only [go_sem]
  refine hK _ _ _ ?_
  clear hK K
  refine W.rseq (k := 4) rfl fun K hK => ?_
  simp only [go_sem]
  refine hK _ _ _ ?_
  clear hK K
  refine W.ret ?_
  simp only [go_sem]

def cmp1 (a b : Int) : Int := if a < b then -1 else if b < a then 1 else 0

theorem f127 (a b : Int) : PF pg Tq 127 [.int .i64 a, .int .i64 b] (.int .i64 (cmp1 a b)) := by
  refine Fi ?_
  refine FH.of (N := 20) (rs := #[.tmp 4]) Try.func127 rfl rfl (of_decide_eq_true rfl) rfl (by decide) ?_
  refine W.rseq (k := 1) rfl fun K hK => ?_
  simp only [go_sem]
  refine hK _ _ _ ?_
  clear hK K
  refine W.rseq (k := 3) rfl fun K hK => ?_
  simp only [go_sem]
  refine VCall.frz 6 (f143 a) rfl ?_
  try simp only [go_sem]
  refine hK _ _ _ ?_
  clear hK K
  refine W.rseq (k := 3) rfl fun K hK => ?_
  simp only [go_sem]
  refine VCall.frz 6 (f143 b) rfl ?_
  try simp only [go_sem]
  refine hK _ _ _ ?_
  clear hK K
  refine W.seq ?_
  refine W.rseq (k := 1) rfl fun K hK => ?_
  simp only [go_sem]
  refine hK _ _ _ ?_
  clear hK K
  refine W.condF (by simp only [go_sem]) ?_
  refine W.skip ?_
  simp only [go_sem]
  refine W.seq ?_
  refine W.rseq (k := 1) rfl fun K hK => ?_
  simp only [go_sem]
  refine hK _ _ _ ?_
  clear hK K
  refine W.condF (by simp only [go_sem]) ?_
  refine W.skip ?_
  simp only [go_sem]
  refine W.seq ?_
  refine W.rseq (k := 3) rfl fun K hK => ?_
  simp only [go_sem]
  refine hK _ _ _ ?_
  clear hK K
  refine W.cond rfl (fun hc => ?_) fun hc => ?_
  · refine W.rseq (k := 1) rfl fun K hK => ?_
    simp only [go_sem]
    refine hK _ _ _ ?_
    clear hK K
    refine W.ret ?_
    simp only [go_sem]
    simp at hc
    simp [cmp1, hc]
  refine W.skip ?_
  simp only [go_sem]
  refine W.seq ?_
  refine W.rseq (k := 3) rfl fun K hK => ?_
  simp only [go_sem]
  refine hK _ _ _ ?_
  clear hK K
  refine W.cond rfl (fun hc2 => ?_) fun hc2 => ?_
  · refine W.rseq (k := 1) rfl fun K hK => ?_
    simp only [go_sem]
    refine hK _ _ _ ?_
    clear hK K
    refine W.ret ?_
    simp only [go_sem]
    simp at hc hc2
    rw [cmp1, if_neg (by omega), if_pos hc2]
  refine W.skip ?_
  simp only [go_sem]
  refine W.rseq (k := 1) rfl fun K hK => ?_
  simp only [go_sem]
  refine hK _ _ _ ?_
  clear hK K
  refine W.ret ?_
  simp only [go_sem]
  simp at hc hc2
  rw [cmp1, if_neg (by omega), if_neg (by omega)]

def cmpL : List Int → List Int → Int
  | [], [] => 0
  | [], _ :: _ => -1
  | _ :: _, [] => 1
  | a :: xs, b :: ys => if cmp1 a b = 0 then cmpL xs ys else cmp1 a b

theorem cmp_less : ∀ a b : List Int, decide (cmpL a b < 0) = lessL a b
  | [], [] => rfl
  | [], _ :: _ => rfl
  | _ :: _, [] => rfl
  | a :: xs, b :: ys => by
    rw [cmpL, lessL]
    by_cases h : a = b
    · subst h
      rw [if_pos (by simp [cmp1]), if_pos rfl]
      exact cmp_less xs ys
    · rw [if_neg h]
      have : cmp1 a b ≠ 0 := by
        unfold cmp1
        split
        · decide
        · split
          · decide
          · omega
      rw [if_neg this]
      unfold cmp1
      split
      · rename_i h1; simp [h1]
      · rename_i h1
        split
        · simp [h1]
        · simp [h1]

theorem f99 (a b : List Int) (ha : a.length < 2 ^ 60) (hb : b.length < 2 ^ 60) : PF pg Tq 99 [.ro (a.map eIn), .ro (b.map eIn)] (.int .i64 (cmpL a b)) := by
  refine Fi ?_
  refine FH.of (N := 36) (rs := #[.tmp 4]) Try.func99 rfl rfl (of_decide_eq_true rfl) rfl (by decide) ?_
  refine W.rseq (k := 1) rfl fun K hK => ?_
  simp only [go_sem]
  refine hK _ _ _ ?_
  clear hK K
  refine W.seq ?_
  refine W.rseq (k := 3) rfl fun K hK => ?_
  simp only [go_sem]
  refine hK _ _ _ ?_
  clear hK K
  refine W.block (W.while (fun m t h n => ∃ k : Nat, m = a.length - k ∧ k ≤ a.length ∧ k ≤ b.length ∧ t 0 = .ro (a.map eIn) ∧ t 1 = .ro (b.map eIn) ∧ t 9 = .ro (a.map eIn) ∧ t 10 = .int .i64 a.length ∧ t 11 = .int .i64 k ∧ cmpL (a.drop k) (b.drop k) = cmpL a b) a.length ⟨0, by simp, by simp, by simp, rfl, rfl, rfl, rfl, rfl, rfl⟩ fun m t h n ⟨k, e1, e2, e3, e4, e5, e6, e7, e8, e9⟩ => ?_)
  refine W.rseq (k := 1) rfl fun K hK => ?_
  simp only [go_sem, e7, e8]
  refine hK _ _ _ ?_
  clear hK K
  refine W.seq ?_
  refine W.cond rfl (fun hc => ?_) fun hc => ?_
  · refine W.skip ?_
    simp only [go_sem]
    have hk : k < a.length := by simp at hc; omega
    obtain ⟨x, hx⟩ := get_some hk
    have hda : a.drop k = x :: a.drop (k + 1) := by
      rw [List.drop_eq_getElem_cons hk]
      congr 1
      exact (List.getElem_eq_iff hk).2 hx
    refine W.seq (W.block ?_)
    refine W.rseq (k := 5) rfl fun K hK => ?_
    simp only [go_sem, e6, e8, hx]
    refine hK _ _ _ ?_
    clear hK K
    refine W.seq ?_
    refine W.rseq (k := 4) rfl fun K hK => ?_
    simp only [go_sem, e5]
    refine hK _ _ _ ?_
    clear hK K
    by_cases hkb : k < b.length
    · obtain ⟨y, hy⟩ := get_some hkb
      have hdb : b.drop k = y :: b.drop (k + 1) := by
        rw [List.drop_eq_getElem_cons hkb]
        congr 1
        exact (List.getElem_eq_iff hkb).2 hy
      rw [hda, hdb, cmpL] at e9
      refine W.condF (by simp only [go_sem, show decide ((k : Int) ≥ (b.length : Int)) = false from decide_eq_false (by omega)]) ?_
      refine W.skip ?_
      simp only [go_sem]
      refine W.rseq (k := 5) rfl fun K hK => ?_
      simp only [go_sem, e5, hy]
      refine hK _ _ _ ?_
      clear hK K
      refine W.rseq (k := 4) rfl fun K hK => ?_
      simp only [go_sem]
      refine VCall.frz 6 (f127 x y) rfl ?_
      try simp only [go_sem]
      refine hK _ _ _ ?_
      clear hK K
      refine W.rseq (k := 2) rfl fun K hK => ?_
      simp only [go_sem]
      refine hK _ _ _ ?_
      clear hK K
      by_cases h0 : cmp1 x y = 0
      · rw [if_pos h0] at e9
        refine W.condF (by simp only [go_sem, h0]) ?_
        refine W.skip ?_
        simp only [go_sem]
        refine W.region (k := 2) rfl ?_
        simp only [go_sem, e8]
        refine ⟨a.length - (k + 1), by omega, k + 1, rfl, by omega, by omega, e4, e5, e6, e7, ?_, e9⟩
        rw [wrap64 (by omega) (by omega)]; rfl
      · rw [if_neg h0] at e9
        refine W.condT (by simp only [go_sem, show decide (cmp1 x y = 0) = false from decide_eq_false h0]) ?_
        refine W.rseq (k := 2) rfl fun K hK => ?_
        simp only [go_sem]
        refine hK _ _ _ ?_
        clear hK K
        refine W.ret ?_
        simp only [go_sem]
        rw [e9]
    · have hdb : b.drop k = [] := List.drop_eq_nil_of_le (by omega)
      rw [hda, hdb, cmpL] at e9
      refine W.condT (by simp only [go_sem, show decide ((k : Int) ≥ (b.length : Int)) = true from decide_eq_true (by omega)]) ?_
      refine W.rseq (k := 1) rfl fun K hK => ?_
      simp only [go_sem]
      refine hK _ _ _ ?_
      clear hK K
      refine W.ret ?_
      simp only [go_sem]
      rw [← e9]
  · refine W.exit ?_
    simp only [go_sem]
    have hk : k = a.length := by simp at hc; omega
    subst hk
    rw [List.drop_length] at e9
    refine W.seq ?_
    refine W.rseq (k := 5) rfl fun K hK => ?_
    simp only [go_sem, e4, e5]
    refine hK _ _ _ ?_
    clear hK K
    by_cases hlt : a.length < b.length
    · obtain ⟨y, hy⟩ := get_some hlt
      have hdb : b.drop a.length = y :: b.drop (a.length + 1) := by
        rw [List.drop_eq_getElem_cons hlt]
        congr 1
        exact (List.getElem_eq_iff hlt).2 hy
      rw [hdb, cmpL] at e9
      refine W.condT (by simp only [go_sem, show decide ((a.length : Int) < (b.length : Int)) = true from decide_eq_true (by omega)]) ?_
      refine W.rseq (k := 1) rfl fun K hK => ?_
      simp only [go_sem]
      refine hK _ _ _ ?_
      clear hK K
      refine W.ret ?_
      simp only [go_sem]
      rw [← e9]
    · have hdb : b.drop a.length = [] := List.drop_eq_nil_of_le (by omega)
      rw [hdb, cmpL] at e9
      refine W.condF (by simp only [go_sem, show decide ((a.length : Int) < (b.length : Int)) = false from decide_eq_false (by omega)]) ?_
      refine W.skip ?_
      simp only [go_sem]
      refine W.rseq (k := 1) rfl fun K hK => ?_
      simp only [go_sem]
      refine hK _ _ _ ?_
      clear hK K
      refine W.ret ?_
      simp only [go_sem]
      rw [← e9]

theorem f62 (a b : List Int) (ha : a.length < 2 ^ 60) (hb : b.length < 2 ^ 60) : PF pg Tq 62 [.ro (a.map eIn), .ro (b.map eIn)] (.bool (lessL a b)) := by
  refine Fb ?_
  refine FH.of (N := 9) (rs := #[.tmp 4]) Try.func62 rfl rfl (of_decide_eq_true rfl) rfl (by decide) ?_
  refine W.rseq (k := 1) rfl fun K hK => ?_
  simp only [go_sem]
  refine hK _ _ _ ?_
  clear hK K
  refine W.rseq (k := 5) rfl fun K hK => ?_
  simp only [go_sem]
  refine VCall.frz 6 (f99 a b ha hb) rfl ?_
  try simp only [go_sem]
  refine hK _ _ _ ?_
  clear hK K
  refine W.ret ?_
  simp only [go_sem]
  rw [cmp_less]

theorem f63 (a b : List Int) (ha : a.length < 2 ^ 60) (hb : b.length < 2 ^ 60) : PF pg Tq 63 [.ro (a.map eIn), .ro (b.map eIn)] (.bool (lessL a b)) := by
  refine Fb ?_
  refine FH.of (N := 41) (rs := #[.tmp 4]) Try.func63 rfl rfl (of_decide_eq_true rfl) rfl (by decide) ?_
  refine W.rseq (k := 1) rfl fun K hK => ?_
  simp only [go_sem]
  refine hK _ _ _ ?_
  clear hK K
  refine W.seq ?_
  refine W.rseq (k := 1) rfl fun K hK => ?_
  simp only [go_sem]
  refine hK _ _ _ ?_
  clear hK K
  have lessE : ∀ a b : List Int, (∀ k : Nat, a[k]? = none ∨ b[k]? = none ∨ a[k]? = b[k]?) → True := fun _ _ _ => trivial
  clear lessE
  refine W.block (W.while (fun m t h n => ∃ k : Nat, m = a.length - k ∧ k ≤ a.length ∧ k ≤ b.length ∧ t 0 = .ro (a.map eIn) ∧ t 1 = .ro (b.map eIn) ∧ t 5 = .int .i64 k ∧ lessL (a.drop k) (b.drop k) = lessL a b) a.length ⟨0, by simp, by simp, by simp, rfl, rfl, rfl, rfl⟩ fun m t h n ⟨k, e1, e2, e3, e4, e5, e6, e7⟩ => ?_)
  refine W.seq ?_
  by_cases hk : k < a.length ∧ k < b.length
  · obtain ⟨hka, hkb⟩ := hk
    obtain ⟨x, hx⟩ := get_some hka
    obtain ⟨y, hy⟩ := get_some hkb
    have hda : a.drop k = x :: a.drop (k + 1) := by
      rw [List.drop_eq_getElem_cons hka]
      congr 1
      exact (List.getElem_eq_iff hka).2 hx
    have hdb : b.drop k = y :: b.drop (k + 1) := by
      rw [List.drop_eq_getElem_cons hkb]
      congr 1
      exact (List.getElem_eq_iff hkb).2 hy
    rw [hda, hdb, lessL] at e7
    refine W.rseq (k := 10) rfl fun K hK => ?_
    simp only [go_sem, e4, e5, e6, show decide ((k : Int) < (a.length : Int)) = true from decide_eq_true (by omega), show decide ((k : Int) < (b.length : Int)) = true from decide_eq_true (by omega)]
    refine hK _ _ _ ?_
    clear hK K
    refine W.condT (by simp only [go_sem]) ?_
    refine W.skip ?_
    simp only [go_sem]
    refine W.seq (W.block ?_)
    by_cases hxy : x = y
    · rw [if_pos hxy] at e7
      refine W.dseq (k := 9) rfl fun K hK => ?_
      simp only [go_sem, e4, e5, e6, hx, hy, hxy]
      refine hK _ _ _ _ (by kernel_rfl) ?_
      clear hK K
      refine W.condF (by simp only [go_sem]) ?_
      refine W.skip ?_
      simp only [go_sem]
      refine W.region (k := 3) rfl ?_
      simp only [go_sem, e6]
      refine ⟨a.length - (k + 1), by omega, k + 1, rfl, by omega, by omega, e4, e5, ?_, e7⟩
      rw [wrap64 (by omega) (by omega)]; rfl
    · rw [if_neg hxy] at e7
      refine W.dseq (k := 9) rfl fun K hK => ?_
      simp only [go_sem, e4, e5, e6, hx, hy, show decide (x = y) = false from decide_eq_false hxy]
      refine hK _ _ _ _ (by kernel_rfl) ?_
      clear hK K
      refine W.condT (by simp only [go_sem]) ?_
      refine W.dseq (k := 10) rfl fun K hK => ?_
      simp only [go_sem, e4, e5, e6, hx, hy]
      refine hK _ _ _ _ (by kernel_rfl) ?_
      clear hK K
      refine W.ret ?_
      simp only [go_sem]
      rw [← e7]
  · have fin : ∀ (hab : decide ((a.length : Int) < (b.length : Int)) = lessL a b), True := fun _ => trivial
    clear fin
    have hab : decide ((a.length : Int) < (b.length : Int)) = lessL a b := by
      rw [← e7]
      by_cases hka : k < a.length
      · have hkb : ¬ k < b.length := fun h => hk ⟨hka, h⟩
        have hdb : b.drop k = [] := List.drop_eq_nil_of_le (by omega)
        rw [hdb]
        cases a.drop k <;> simp [lessL] <;> omega
      · have hda : a.drop k = [] := List.drop_eq_nil_of_le (by omega)
        rw [hda]
        by_cases hkb : k < b.length
        · have hdb : b.drop k = b[k] :: b.drop (k + 1) := List.drop_eq_getElem_cons hkb
          rw [hdb]
          simp [lessL]; omega
        · have hdb : b.drop k = [] := List.drop_eq_nil_of_le (by omega)
          rw [hdb]
          simp [lessL]; omega
    by_cases hka : k < a.length
    · have hkb : ¬ k < b.length := fun h => hk ⟨hka, h⟩
      refine W.rseq (k := 10) rfl fun K hK => ?_
      simp only [go_sem, e4, e5, e6, show decide ((k : Int) < (a.length : Int)) = true from decide_eq_true (by omega), show decide ((k : Int) < (b.length : Int)) = false from decide_eq_false (by omega)]
      refine hK _ _ _ ?_
      clear hK K
      refine W.condF (by simp only [go_sem]) ?_
      refine W.exit ?_
      simp only [go_sem]
      refine W.rseq (k := 6) rfl fun K hK => ?_
      simp only [go_sem, e4, e5]
      refine hK _ _ _ ?_
      clear hK K
      refine W.ret ?_
      simp only [go_sem]
      rw [hab]
    · refine W.rseq (k := 10) rfl fun K hK => ?_
      simp only [go_sem, e4, e5, e6, show decide ((k : Int) < (a.length : Int)) = false from decide_eq_false (by omega)]
      refine hK _ _ _ ?_
      clear hK K
      refine W.condF (by simp only [go_sem]) ?_
      refine W.exit ?_
      simp only [go_sem]
      refine W.rseq (k := 6) rfl fun K hK => ?_
      simp only [go_sem, e4, e5]
      refine hK _ _ _ ?_
      clear hK K
      refine W.ret ?_
      simp only [go_sem]
      rw [hab]

def ndIn (l : List Nd) : Prop := l.length < 2 ^ 40 ∧ ∀ x ∈ l, x.2.length < 2 ^ 60

theorem f60 (a b : List Nd) (ha : ndIn a) (hb : ndIn b) : PF pg Tq 60 [.ro (a.map eNd), .ro (b.map eNd)] (.bool (a == b)) := by
  have hal := ha.1
  have hbl := hb.1
  refine Fb ?_
  refine FH.of (N := 42) (rs := #[.tmp 4]) Try.func60 rfl rfl (of_decide_eq_true rfl) rfl (by decide) ?_
  refine W.rseq (k := 1) rfl fun K hK => ?_
  simp only [go_sem]
  refine hK _ _ _ ?_
  clear hK K
  refine W.seq ?_
  refine W.rseq (k := 5) rfl fun K hK => ?_
  simp only [go_sem]
  refine hK _ _ _ ?_
  clear hK K
  refine W.cond rfl (fun hc => ?_) fun hc => ?_
  · refine W.rseq (k := 1) rfl fun K hK => ?_
    simp only [go_sem]
    refine hK _ _ _ ?_
    clear hK K
    refine W.ret ?_
    simp only [go_sem]
    have : ¬ a = b := by rintro rfl; simp at hc
    simp [this]
  refine W.skip ?_
  simp only [go_sem]
  have hl : a.length = b.length := by simp at hc; omega
  refine W.seq ?_
  refine W.rseq (k := 1) rfl fun K hK => ?_
  simp only [go_sem]
  refine hK _ _ _ ?_
  clear hK K
  refine W.block (W.while (fun m t h n => ∃ k : Nat, m = a.length - k ∧ k ≤ a.length ∧ t 0 = .ro (a.map eNd) ∧ t 1 = .ro (b.map eNd) ∧ t 5 = .int .i64 k ∧ a.take k = b.take k) a.length ⟨0, by simp, by simp, rfl, rfl, rfl, by simp⟩ fun m t h n ⟨k, e1, e2, e3, e4, e5, e6⟩ => ?_)
  clear hc
  refine W.seq ?_
  refine W.rseq (k := 4) rfl fun K hK => ?_
  simp only [go_sem, e3, e4, e5]
  refine hK _ _ _ ?_
  clear hK K
  refine W.cond rfl (fun hc => ?_) fun hc => ?_
  · refine W.skip ?_
    simp only [go_sem]
    have hk : k < a.length := by simp at hc; omega
    obtain ⟨fa, hfa⟩ := get_some hk
    obtain ⟨fb, hfb⟩ := get_some (hl ▸ hk : k < b.length)
    refine W.seq (W.block ?_)
    refine W.seqk fun K hK => ?_
    have no : fa ≠ fb → (a == b) = false := fun hne => by
      have : ¬ a = b := by
        rintro rfl
        rw [hfa] at hfb
        cases hfb
        exact hne rfl
      simp [this]
    have go : ∀ (t' : Fr) (h' : Heap) (n' : Nat) (r : Bool), t' 41 = .bool r → (r = true → fa ≠ fb) → (r = false → fa = fb) → t' 0 = .ro (a.map eNd) → t' 1 = .ro (b.map eNd) → t' 5 = .int .i64 k → K t' h' n' := by
      intro t' h' n' r c1 c2 c3 c4 c5 c6
      refine hK _ _ _ ?_
      cases r
      · refine W.condF (by simp only [go_sem, c1]) ?_
        refine W.skip ?_
        simp only [go_sem]
        refine W.region (k := 3) rfl ?_
        simp only [go_sem, c6]
        refine ⟨a.length - (k + 1), by omega, k + 1, rfl, by omega, c4, c5, ?_, ?_⟩
        · rw [wrap64 (by omega) (by omega)]; rfl
        · rw [List.take_add_one, List.take_add_one, e6, hfa, hfb, c3 rfl]
      · refine W.condT (by simp only [go_sem, c1]) ?_
        refine W.rseq (k := 1) rfl fun K hK => ?_
        simp only [go_sem]
        refine hK _ _ _ ?_
        clear hK K
        refine W.ret ?_
        simp only [go_sem]
        rw [no (c2 rfl)]
    clear hK
    refine W.draw (k := 25) rfl ?_
    by_cases h1 : fa.1 = fb.1
    · simp only [go_sem, e3, e4, e5, hfa, hfb, h1]
      refine VCall.frz 6 (f59 fa.2 fb.2 (ha.2 fa (List.mem_of_getElem? hfa)) (hb.2 fb (List.mem_of_getElem? hfb))) rfl ?_
      simp only [go_sem]
      refine ⟨by kernel_rfl, ?_⟩
      refine go _ _ _ (!(fa.2 == fb.2)) rfl (fun hr => ?_) (fun hr => ?_) e3 e4 e5
      · intro e; rw [e] at hr; simp at hr
      · have : fa.2 = fb.2 := by simpa using hr
        exact Prod.ext h1 this
    · simp only [go_sem, e3, e4, e5, hfa, hfb, show decide (fa.1 = fb.1) = false from decide_eq_false h1]
      refine ⟨by kernel_rfl, ?_⟩
      exact go _ _ _ true rfl (fun _ e => h1 (by rw [e])) (fun h => by cases h) e3 e4 e5
  · refine W.exit ?_
    simp only [go_sem]
    have hk : ¬ k < a.length := by simp at hc; omega
    refine W.rseq (k := 1) rfl fun K hK => ?_
    simp only [go_sem]
    refine hK _ _ _ ?_
    clear hK K
    refine W.ret ?_
    simp only [go_sem]
    have : a = b := by
      rw [List.take_of_length_le (by omega), List.take_of_length_le (by omega)] at e6
      exact e6
    simp [this]

/-- A function that is called with frozen values, whose result may lead to them. -/
def PFT (f : FuncId) (args : List AV) (res : AV) : Prop := ∃ r h' n', Big pg Tq (.fn f args h0 0 r h' n') ∧ ∃ d, rf true d h' r = some res

theorem VCall.frzt {s : Nat} {g : FuncId} {args : List AV} {h : Heap} {x : Nat} {k : Cls → AV → Heap → Nat → Prop} {res : AV} (d : Nat) (hf : PFT g args res) (hr : rfs true d h0 args = some args) (hk : k .L res h x) : VCall pg Tq s g args h x k := by
  obtain ⟨r, h', n', hb, d', hR⟩ := hf
  exact .inr (.inl ⟨false, d, d', _, r, res, h', n', hr, hb, hR, hk⟩)

theorem f61 (l : List Nd) (hl : l.length < 2 ^ 40) : PFT 61 [.ro (l.map eNd)] (.ro (l.map eNd)) := by
  have fin : FH pg Tq 61 [.ro (l.map eNd)] h0 0 fun r h n => SlL eNd 2 h 0 n r l := by
    refine FH.of (N := 19) (rs := #[.tmp 2]) Try.func61 rfl rfl (of_decide_eq_true rfl) rfl (by decide) ?_
    refine W.rseq (k := 1) rfl fun K hK => ?_
    simp only [go_sem]
    refine hK _ _ _ ?_
    clear hK K
    refine W.rseq (k := 2) rfl fun K hK => ?_
    simp only [go_sem]
    refine hK _ _ _ ?_
    clear hK K
    refine W.seq ?_
    refine W.rseq (k := 3) rfl fun K hK => ?_
    simp only [go_sem]
    refine hK _ _ _ ?_
    clear hK K
    refine W.block (W.while (fun m t h n => ∃ k : Nat, m = l.length - k ∧ k ≤ l.length ∧ t 7 = .ro (l.map eNd) ∧ t 8 = .int .i64 l.length ∧ t 9 = .int .i64 k ∧ SlL eNd 2 h 0 n (t 3) (l.take k)) l.length
      ⟨0, by simp, by simp, rfl, rfl, rfl, .inl ⟨rfl, rfl⟩⟩ fun m t h n ⟨k, i1, i2, i3, i4, i5, i6⟩ => ?_)
    refine W.rseq (k := 1) rfl fun K hK => ?_
    simp only [go_sem, i4, i5]
    refine hK _ _ _ ?_
    clear hK K
    refine W.seq ?_
    refine W.cond rfl (fun hc => ?_) fun hc => ?_
    · refine W.skip ?_
      simp only [go_sem]
      have hk : k < l.length := by simp at hc; omega
      obtain ⟨x, hx⟩ := get_some hk
      have htk : (l.take (k + 1)).map eNd = (l.take k).map eNd ++ [eNd x] := by
        rw [List.take_add_one, hx, List.map_append]; rfl
      have hlk : (l.take k).length = k := by rw [List.length_take]; omega
      refine W.seqk fun K hK => ?_
      have nx : ∀ (t' : Fr) (h' : Heap) (n' : Nat), t' 7 = .ro (l.map eNd) → t' 8 = .int .i64 l.length → t' 9 = .int .i64 k → SlL eNd 2 h' 0 n' (t' 3) (l.take (k + 1)) → K t' h' n' := by
        intro t' h' n' c1 c2 c3 c4
        refine hK _ _ _ ?_
        refine W.region (k := 2) rfl ?_
        simp only [go_sem, c3]
        refine ⟨l.length - (k + 1), by omega, k + 1, rfl, by omega, c1, c2, ?_, c4.next rfl (fun x _ _ => by simp only [go_sem]) (by omega) (by omega)⟩
        rw [wrap64 (by omega) (by omega)]; rfl
      clear hK
      refine W.block ?_
      refine W.rseq (k := 4) rfl fun K hK => ?_
      simp only [go_sem, i3, i5, hx]
      refine hK _ _ _ ?_
      clear hK K
      rcases i6 with ⟨e0, e3⟩ | ⟨b, e3, b1, b2, b3⟩
      · refine W.region (k := 5) rfl ?_
        simp only [go_sem, e3, ne_eq, not_false_eq_true, Int.reduceEq, show (0 : Nat) < 1 by omega, show (0 : Nat) < 2 by omega, show (0 : Nat) < 32 by omega]
        have hk0 : k = 0 := by rw [← hlk, e0]; rfl
        refine nx _ _ _ i3 i4 i5 (.inr ⟨n + 8, ?_, by omega, by omega, ?_⟩)
        · rw [List.length_take, show min (k + 1) l.length = 1 by omega]; rfl
        · rw [htk, e0]; simp only [go_sem]; rfl
      · rw [hlk] at e3
        refine W.region (k := 5) rfl ?_
        simp only [go_sem, e3, b3, hlk, Nat.lt_irrefl, and_false, if_false, ne_eq, not_false_eq_true, Int.reduceEq, show (0 : Nat) < 1 by omega, show (0 : Nat) < 2 by omega, show (0 : Nat) < 32 by omega, show (k + 1) * 32 ≤ 140737488355328 by omega, show ∀ j, ¬ (b = n + j) from fun j => by omega]
        refine nx _ _ _ i3 i4 i5 (.inr ⟨n + 8, ?_, by omega, by omega, ?_⟩)
        · rw [List.length_take, show min (k + 1) l.length = k + 1 by omega]; rfl
        · rw [htk]; simp only [go_sem]
    · refine W.exit ?_
      simp only [go_sem]
      have hk : k = l.length := by simp at hc; omega
      subst hk
      rw [List.take_length] at i6
      refine W.rseq (k := 2) rfl fun K hK => ?_
      simp only [go_sem]
      refine hK _ _ _ ?_
      clear hK K
      refine W.ret ?_
      simp only [go_sem]
      exact i6.next rfl (fun x hx hx' => by simp only [go_sem]) (by omega) (by omega)
  obtain ⟨r, h', n', hb, ho⟩ := fin
  exact ⟨r, h', n', hb, 5, ho.frz (d := 3) fun x _ => by simp [rfs, rf, eNd]⟩

end Go.Av

