/-
  Layer 11: are numbers the same; the calls whose answers the document fixes. Conditions: none.
-/
import Derived.Test.YtiiogleijmcccaaF5
namespace Go.Av
open Go.Proofs
set_option maxRecDepth 100000
set_option linter.unusedSimpArgs false
set_option linter.unusedVariables false

theorem f44 (a b : List Nat) (ha : a.length < 2 ^ 60) (hb : b.length < 2 ^ 60) : PF pg Tq 44 [.ro (a.map eU3), .ro (b.map eU3)] (.bool (a == b)) := by
  refine Fb ?_
  refine FH.of (N := 26) (rs := #[.tmp 4]) Try.func44 rfl rfl (of_decide_eq_true rfl) rfl (by decide) ?_
  refine W.rseq (k := 1) rfl fun K hK => ?_
  simp only [go_sem]
  refine hK _ _ _ ?_
  clear hK K
  refine W.seq ?_
  refine W.rseq (k := 5) rfl fun K hK => ?_
  simp only [go_sem]
  refine hK _ _ _ ?_
  clear hK K
  refine W.cond rfl (fun hc => ?_) fun hc => ?_
  · refine W.rseq (k := 1) rfl fun K hK => ?_
    simp only [go_sem]
    refine hK _ _ _ ?_
    clear hK K
    refine W.ret ?_
    simp only [go_sem]
    have : ¬ a = b := by rintro rfl; simp at hc
    simp [this]
  refine W.skip ?_
  simp only [go_sem]
  have hl : a.length = b.length := by simp at hc; omega
  refine W.seq ?_
  refine W.rseq (k := 1) rfl fun K hK => ?_
  simp only [go_sem]
  refine hK _ _ _ ?_
  clear hK K
  refine W.block (W.while (fun m t h n => ∃ k : Nat, m = a.length - k ∧ k ≤ a.length ∧ t 0 = .ro (a.map eU3) ∧ t 1 = .ro (b.map eU3) ∧ t 5 = .int .i64 k ∧ a.take k = b.take k) a.length ⟨0, by simp, by simp, rfl, rfl, rfl, by simp⟩ fun m t h n ⟨k, e1, e2, e3, e4, e5, e6⟩ => ?_)
  clear hc
  refine W.seq ?_
  refine W.rseq (k := 4) rfl fun K hK => ?_
  simp only [go_sem, e3, e4, e5]
  refine hK _ _ _ ?_
  clear hK K
  refine W.cond rfl (fun hc => ?_) fun hc => ?_
  · refine W.skip ?_
    simp only [go_sem]
    have hk : k < a.length := by simp at hc; omega
    obtain ⟨fa, hfa⟩ := get_some hk
    obtain ⟨fb, hfb⟩ := get_some (hl ▸ hk : k < b.length)
    refine W.seq (W.block ?_)
    refine W.dseq (k := 9) rfl fun K hK => ?_
    simp only [go_sem, e3, e4, e5, hfa, hfb]
    refine hK _ _ _ _ (by kernel_rfl) ?_
    clear hK K
    refine W.cond rfl (fun hc2 => ?_) fun hc2 => ?_
    · refine W.rseq (k := 1) rfl fun K hK => ?_
      simp only [go_sem]
      refine hK _ _ _ ?_
      clear hK K
      refine W.ret ?_
      simp only [go_sem]
      have : ¬ a = b := by
        rintro rfl
        rw [hfa] at hfb
        cases hfb
        simp at hc2
      simp [this]
    · refine W.skip ?_
      simp only [go_sem]
      refine W.region (k := 3) rfl ?_
      simp only [go_sem, e5]
      refine ⟨a.length - (k + 1), by omega, k + 1, rfl, by omega, e3, e4, ?_, ?_⟩
      · rw [wrap64 (by omega) (by omega)]; rfl
      · simp at hc2
        rw [List.take_add_one, List.take_add_one, e6, hfa, hfb]
        have : fa = fb := by omega
        rw [this]
  · refine W.exit ?_
    simp only [go_sem]
    have hk : ¬ k < a.length := by simp at hc; omega
    refine W.rseq (k := 1) rfl fun K hK => ?_
    simp only [go_sem]
    refine hK _ _ _ ?_
    clear hK K
    refine W.ret ?_
    simp only [go_sem]
    have : a = b := by
      rw [List.take_of_length_le (by omega), List.take_of_length_le (by omega)] at e6
      exact e6
    simp [this]

theorem VCall.u3q {s : Nat} {g : FuncId} {args args' : List AV} {h : Heap} {x : Nat} {k : Cls → AV → Heap → Nat → Prop} {l : List Nat} (d : Nat) (hf : FH pg Tq g args' h0 0 fun r h _ => OwnU3 l r h) (hr : rfs true d h args = some args') (k1 : k .Q (.ro (l.map eU3)) h x) : VCall pg Tq s g args h x k :=
  VCall.frzq d hr (OwnU3.pf hf) k1

def gc : Gr := ⟨2, 2, 0, [⟨0, [⟨true, 1⟩, ⟨false, 1⟩]⟩, ⟨1, [⟨false, 0⟩]⟩, ⟨1, []⟩]⟩

theorem gc_small : gc.Small := by
  refine ⟨by decide, fun p hp => ?_⟩
  simp [gc] at hp
  rcases hp with rfl | rfl | rfl <;> decide

theorem gc_first : firstL gc = [3, 1] := by kernel_rfl
theorem gc_of1 : ofL gc [⟨true, 1⟩] = (1, true) := by kernel_rfl
theorem gc_of2 : ofL gc [⟨true, 1⟩, ⟨false, 1⟩] = (3, false) := by kernel_rfl

theorem f42 : PF pg Tq 42 [] (.bool true) := by
  refine Fb ?_
  refine FH.of (N := 50) (rs := #[.tmp 0]) Try.func42 rfl rfl (of_decide_eq_true rfl) rfl (by decide) ?_
  refine W.rseq (k := 1) rfl fun K hK => ?_
  simp only [go_sem]
  refine hK _ _ _ ?_
  clear hK K
  refine W.rseq (k := 12) rfl fun K hK => ?_
  simp only [go_sem, show (0 : Nat) < 2 by omega, show (0 : Nat) < 3 by omega, show ¬ (2 : Nat) = 0 by omega, show ¬ (3 : Nat) = 0 by omega, show ¬ (1 : Nat) = 0 by omega, show (1 : Nat) < 2 by omega, show (0 : Nat) < 1 by omega, show (1 : Nat) < 3 by omega, show (2 : Nat) < 3 by omega]
  refine hK _ _ _ ?_
  first | clear hK K | clear hK | skip
  have h43a := f43 gc gc_small [⟨true, 1⟩] (by decide)
  have h43b := f43 gc gc_small [⟨true, 1⟩, ⟨false, 1⟩] (by decide)
  have h45 := f45 gc gc_small
  rw [gc_of1] at h43a
  rw [gc_of2] at h43b
  rw [gc_first] at h45
  refine W.rseq (k := 9) rfl fun K hK => ?_
  simp only [go_sem, show (0 : Nat) < 2 by omega, show ¬ (1 : Nat) = 0 by omega, show (0 : Nat) < 1 by omega]
  refine VCall.frzq 20 (by kernel_rfl) h43a ?_
  simp only [go_sem]
  refine hK _ _ _ ?_
  first | clear hK K | clear hK | skip
  refine W.rseq (k := 10) rfl fun K hK => ?_
  simp only [go_sem, show (0 : Nat) < 2 by omega, show ¬ (2 : Nat) = 0 by omega, show (0 : Nat) < 1 by omega, show (1 : Nat) < 2 by omega]
  refine VCall.frzq 20 (by kernel_rfl) h43b ?_
  simp only [go_sem]
  refine hK _ _ _ ?_
  first | clear hK K | clear hK | skip
  refine W.rseq (k := 20) rfl fun K hK => ?_
  simp only [go_sem]
  refine VCall.u3q 20 h45 (by kernel_rfl) ?_
  simp only [go_sem, show (0 : Nat) < 2 by omega, show ¬ (2 : Nat) = 0 by omega, show (0 : Nat) < 1 by omega, show (1 : Nat) < 2 by omega]
  refine VCall.frzq 20 (by kernel_rfl) (f44 [3, 1] [3, 1] (by decide) (by decide)) ?_
  simp only [go_sem, show (([3, 1] : List Nat) == [3, 1]) = true from by kernel_rfl]
  refine hK _ _ _ ?_
  first | clear hK K | clear hK | skip
  refine W.ret ?_
  simp only [go_sem]

end Go.Av

