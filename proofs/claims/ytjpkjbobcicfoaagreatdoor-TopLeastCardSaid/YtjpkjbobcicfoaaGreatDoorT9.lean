/-
  Layer 15: are lists the same, which stands ahead; nodes. Conditions: none.
-/
import Derived.Test.YtjpkjbobcicfoaaGreatDoorT7
import Derived.Test.YtjpkjbobcicfoaaGreatDoorG1
set_option linter.unusedSimpArgs false
set_option linter.unusedVariables false
namespace Go.Av
open Go.Proofs
set_option maxRecDepth 100000
theorem fz12 (a b : List Int) (ha : a.length < 2 ^ 60) (hb : b.length < 2 ^ 60) : PF pg Tq 12 [.ro (a.map eIn), .ro (b.map eIn)] (.bool (a == b)) := by
  refine Fb ?_
  refine FH.of (N := 26) (rs := #[.tmp 4]) Tryz.func12 rfl rfl (of_decide_eq_true rfl) rfl (by decide) ?_
  refine W.rseq (k := 1) rfl fun K hK => ?_; simp only [go_sem]; refine hK _ _ _ ?_; clear hK K; refine W.seq ?_; refine W.rseq (k := 5) rfl fun K hK => ?_; simp only [go_sem]; refine hK _ _ _ ?_; clear hK K
  refine W.cond rfl (fun hc => ?_) fun hc => ?_
  · refine W.rseq (k := 1) rfl fun K hK => ?_; simp only [go_sem]; refine hK _ _ _ ?_; clear hK K; refine W.ret ?_; simp only [go_sem]
    have : ¬ a = b := by rintro rfl; simp at hc
    simp [this]
  refine W.skip ?_; simp only [go_sem]
  have hl : a.length = b.length := by simp at hc; omega
  refine W.seq ?_; refine W.rseq (k := 1) rfl fun K hK => ?_; simp only [go_sem]; refine hK _ _ _ ?_; clear hK K
  refine W.block (W.while (fun m t h n => ∃ k : Nat, m = a.length - k ∧ k ≤ a.length ∧ t 0 = .ro (a.map eIn) ∧ t 1 = .ro (b.map eIn) ∧ t 5 = .int .i64 k ∧ a.take k = b.take k) a.length ⟨0, by simp, by simp, rfl, rfl, rfl, by simp⟩ fun m t h n ⟨k, e1, e2, e3, e4, e5, e6⟩ => ?_)
  clear hc
  refine W.seq ?_; refine W.rseq (k := 4) rfl fun K hK => ?_; simp only [go_sem, e3, e4, e5]; refine hK _ _ _ ?_; clear hK K
  refine W.cond rfl (fun hc => ?_) fun hc => ?_
  · refine W.skip ?_; simp only [go_sem]
    have hk : k < a.length := by simp at hc; omega
    obtain ⟨fa, hfa⟩ := get_some hk
    obtain ⟨fb, hfb⟩ := get_some (hl ▸ hk : k < b.length)
    refine W.seq (W.block ?_)
    refine W.dseq (k := 9) rfl fun K hK => ?_; simp only [go_sem, e3, e4, e5, hfa, hfb]; refine hK _ _ _ _ (by kernel_rfl) ?_; clear hK K
    refine W.cond rfl (fun hc2 => ?_) fun hc2 => ?_
    · refine W.rseq (k := 1) rfl fun K hK => ?_; simp only [go_sem]; refine hK _ _ _ ?_; clear hK K; refine W.ret ?_; simp only [go_sem]
      have : ¬ a = b := by
        rintro rfl
        rw [hfa] at hfb
        cases hfb
        simp at hc2
      simp [this]
    · refine W.skip ?_; simp only [go_sem]; refine W.region (k := 3) rfl ?_; simp only [go_sem, e5]
      refine ⟨a.length - (k + 1), by omega, k + 1, rfl, by omega, e3, e4, ?_, ?_⟩
      · rw [wrap64 (by omega) (by omega)]; rfl
      · simp at hc2
        rw [List.take_add_one, List.take_add_one, e6, hfa, hfb]
        have : fa = fb := by omega
        rw [this]
  · refine W.exit ?_; simp only [go_sem]
    have hk : ¬ k < a.length := by simp at hc; omega
    refine W.rseq (k := 1) rfl fun K hK => ?_; simp only [go_sem]; refine hK _ _ _ ?_; clear hK K; refine W.ret ?_; simp only [go_sem]
    have : a = b := by
      rw [List.take_of_length_le (by omega), List.take_of_length_le (by omega)] at e6
      exact e6
    simp [this]
theorem fz11 (a b : List Int) (ha : a.length < 2 ^ 60) (hb : b.length < 2 ^ 60) : PF pg Tq 11 [.ro (a.map eIn), .ro (b.map eIn)] (.bool (lessL a b)) := by
  refine Fb ?_
  refine FH.of (N := 41) (rs := #[.tmp 4]) Tryz.func11 rfl rfl (of_decide_eq_true rfl) rfl (by decide) ?_
  refine W.rseq (k := 1) rfl fun K hK => ?_; simp only [go_sem]; refine hK _ _ _ ?_; clear hK K; refine W.seq ?_; refine W.rseq (k := 1) rfl fun K hK => ?_; simp only [go_sem]; refine hK _ _ _ ?_; clear hK K
  have lessE : ∀ a b : List Int, (∀ k : Nat, a[k]? = none ∨ b[k]? = none ∨ a[k]? = b[k]?) → True := fun _ _ _ => trivial
  clear lessE
  refine W.block (W.while (fun m t h n => ∃ k : Nat, m = a.length - k ∧ k ≤ a.length ∧ k ≤ b.length ∧ t 0 = .ro (a.map eIn) ∧ t 1 = .ro (b.map eIn) ∧ t 5 = .int .i64 k ∧ lessL (a.drop k) (b.drop k) = lessL a b) a.length ⟨0, by simp, by simp, by simp, rfl, rfl, rfl, rfl⟩ fun m t h n ⟨k, e1, e2, e3, e4, e5, e6, e7⟩ => ?_)
  refine W.seq ?_
  by_cases hk : k < a.length ∧ k < b.length
  · obtain ⟨hka, hkb⟩ := hk
    obtain ⟨x, hx⟩ := get_some hka
    obtain ⟨y, hy⟩ := get_some hkb
    have hda : a.drop k = x :: a.drop (k + 1) := by
      rw [List.drop_eq_getElem_cons hka]
      congr 1
      exact (List.getElem_eq_iff hka).2 hx
    have hdb : b.drop k = y :: b.drop (k + 1) := by
      rw [List.drop_eq_getElem_cons hkb]
      congr 1
      exact (List.getElem_eq_iff hkb).2 hy
    rw [hda, hdb, lessL] at e7
    refine W.rseq (k := 10) rfl fun K hK => ?_; simp only [go_sem, e4, e5, e6, show decide ((k : Int) < (a.length : Int)) = true from decide_eq_true (by omega), show decide ((k : Int) < (b.length : Int)) = true from decide_eq_true (by omega)]; refine hK _ _ _ ?_; clear hK K; refine W.condT (by simp only [go_sem]) ?_; refine W.skip ?_; simp only [go_sem]
    refine W.seq (W.block ?_)
    by_cases hxy : x = y
    · rw [if_pos hxy] at e7
      refine W.dseq (k := 9) rfl fun K hK => ?_; simp only [go_sem, e4, e5, e6, hx, hy, hxy]; refine hK _ _ _ _ (by kernel_rfl) ?_; clear hK K; refine W.condF (by simp only [go_sem]) ?_; refine W.skip ?_; simp only [go_sem]; refine W.region (k := 3) rfl ?_; simp only [go_sem, e6]
      refine ⟨a.length - (k + 1), by omega, k + 1, rfl, by omega, by omega, e4, e5, ?_, e7⟩
      rw [wrap64 (by omega) (by omega)]; rfl
    · rw [if_neg hxy] at e7
      refine W.dseq (k := 9) rfl fun K hK => ?_; simp only [go_sem, e4, e5, e6, hx, hy, show decide (x = y) = false from decide_eq_false hxy]; refine hK _ _ _ _ (by kernel_rfl) ?_; clear hK K; refine W.condT (by simp only [go_sem]) ?_; refine W.dseq (k := 10) rfl fun K hK => ?_; simp only [go_sem, e4, e5, e6, hx, hy]; refine hK _ _ _ _ (by kernel_rfl) ?_; clear hK K; refine W.ret ?_; simp only [go_sem]
      rw [← e7]
  · have fin : ∀ (hab : decide ((a.length : Int) < (b.length : Int)) = lessL a b), True := fun _ => trivial
    clear fin
    have hab : decide ((a.length : Int) < (b.length : Int)) = lessL a b := by
      rw [← e7]
      by_cases hka : k < a.length
      · have hkb : ¬ k < b.length := fun h => hk ⟨hka, h⟩
        have hdb : b.drop k = [] := List.drop_eq_nil_of_le (by omega)
        rw [hdb]
        cases a.drop k <;> simp [lessL] <;> omega
      · have hda : a.drop k = [] := List.drop_eq_nil_of_le (by omega)
        rw [hda]
        by_cases hkb : k < b.length
        · have hdb : b.drop k = b[k] :: b.drop (k + 1) := List.drop_eq_getElem_cons hkb
          rw [hdb]
          simp [lessL]; omega
        · have hdb : b.drop k = [] := List.drop_eq_nil_of_le (by omega)
          rw [hdb]
          simp [lessL]; omega
    by_cases hka : k < a.length
    · have hkb : ¬ k < b.length := fun h => hk ⟨hka, h⟩
      refine W.rseq (k := 10) rfl fun K hK => ?_; simp only [go_sem, e4, e5, e6, show decide ((k : Int) < (a.length : Int)) = true from decide_eq_true (by omega), show decide ((k : Int) < (b.length : Int)) = false from decide_eq_false (by omega)]; refine hK _ _ _ ?_; clear hK K; refine W.condF (by simp only [go_sem]) ?_; refine W.exit ?_; simp only [go_sem]; refine W.rseq (k := 6) rfl fun K hK => ?_; simp only [go_sem, e4, e5]; refine hK _ _ _ ?_; clear hK K; refine W.ret ?_; simp only [go_sem]
      rw [hab]
    · refine W.rseq (k := 10) rfl fun K hK => ?_; simp only [go_sem, e4, e5, e6, show decide ((k : Int) < (a.length : Int)) = false from decide_eq_false (by omega)]; refine hK _ _ _ ?_; clear hK K; refine W.condF (by simp only [go_sem]) ?_; refine W.exit ?_; simp only [go_sem]; refine W.rseq (k := 6) rfl fun K hK => ?_; simp only [go_sem, e4, e5]; refine hK _ _ _ ?_; clear hK K; refine W.ret ?_; simp only [go_sem]
      rw [hab]
end Go.Av
