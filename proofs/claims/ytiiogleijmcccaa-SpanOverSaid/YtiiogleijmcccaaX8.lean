/-
  Layer 16: rows are the same; rows of one's own. Conditions: none.
-/
import Derived.Test.YtiiogleijmcccaaX7
namespace Go.Av
open Go.Proofs
set_option maxRecDepth 100000
set_option linter.unusedSimpArgs false
set_option linter.unusedVariables false

theorem eqR_self {f : Nat → Nat} : eqR f f = true := by simp [eqR]

set_option maxHeartbeats 4000000 in
theorem f72 (l : List (Nat → Nat)) (hl : l.length < 2 ^ 40) : PF pg Tq 72 [.ro (l.map eRw), .ro (l.map eRw)] (.bool true) := by
  refine Fb ?_
  refine FH.of (N := 26) (rs := #[.tmp 4]) Try.func72 rfl rfl (of_decide_eq_true rfl) rfl (by decide) ?_
  refine W.rseq (k := 1) rfl fun K hK => ?_
  simp only [go_sem]
  refine hK _ _ _ ?_
  clear hK K
  refine W.seq ?_
  refine W.rseq (k := 5) rfl fun K hK => ?_
  simp only [go_sem]
  refine hK _ _ _ ?_
  clear hK K
  refine W.condF (by simp only [go_sem, decide_true, Bool.not_true]) ?_
  refine W.skip ?_
  simp only [go_sem]
  refine W.seq ?_
  refine W.rseq (k := 1) rfl fun K hK => ?_
  simp only [go_sem]
  refine hK _ _ _ ?_
  clear hK K
  refine W.block (W.while (fun m t h n => ∃ j : Nat, m = l.length - j ∧ j ≤ l.length ∧ (t 0 = .ro (l.map eRw) ∧ t 1 = .ro (l.map eRw)) ∧ t 5 = .int .i64 j) l.length
    ⟨0, by simp, by simp, ⟨rfl, rfl⟩, rfl⟩ fun m t h n ⟨j, i1, i2, i6, i7⟩ => ?_)
  obtain ⟨a0, a1⟩ := i6
  refine W.seq ?_
  refine W.rseq (k := 4) rfl fun K hK => ?_
  simp only [go_sem, a0, i7]
  refine hK _ _ _ ?_
  clear hK K
  refine W.cond rfl (fun hc => ?_) fun hc => ?_
  · refine W.skip ?_
    simp only [go_sem]
    have hj : j < l.length := by simp at hc; omega
    have hg := row_get hj
    refine W.seq (W.block ?_)
    refine W.dseq (k := 9) rfl fun K hK => ?_
    simp only [go_sem, a0, a1, i7, hg, eR_len, eR_tk, eqs_rw, eqR_self]
    refine hK _ _ _ _ (by kernel_rfl) ?_
    clear hK K
    refine W.condF (by simp only [go_sem]) ?_
    refine W.skip ?_
    simp only [go_sem]
    refine W.region (k := 3) rfl ?_
    simp only [go_sem, i7]
    refine ⟨l.length - (j + 1), by omega, j + 1, rfl, by omega, ⟨a0, a1⟩, ?_⟩
    rw [wrap64 (by omega) (by omega)]; rfl
  · refine W.exit ?_
    simp only [go_sem]
    refine W.rseq (k := 1) rfl fun K hK => ?_
    simp only [go_sem]
    refine hK _ _ _ ?_
    clear hK K
    refine W.ret ?_
    simp only [go_sem]

set_option maxHeartbeats 4000000 in
theorem f73 (l : List (Nat → Nat)) (hl : l.length < 2 ^ 30) : PF pg Tq 73 [.ro (l.map eRw)] (.ro (l.map eRw)) := by
  have fin : FH pg Tq 73 [.ro (l.map eRw)] h0 0 fun r h n => SlL eRw 25 h 0 n r l := by
    refine FH.of (N := 19) (rs := #[.tmp 2]) Try.func73 rfl rfl (of_decide_eq_true rfl) rfl (by decide) ?_
    refine W.rseq (k := 1) rfl fun K hK => ?_
    simp only [go_sem]
    refine hK _ _ _ ?_
    clear hK K
    refine W.rseq (k := 2) rfl fun K hK => ?_
    simp only [go_sem]
    refine hK _ _ _ ?_
    clear hK K
    refine W.seq ?_
    refine W.rseq (k := 3) rfl fun K hK => ?_
    simp only [go_sem]
    refine hK _ _ _ ?_
    clear hK K
    refine W.block (W.while (fun m t h n => ∃ j : Nat, m = l.length - j ∧ j ≤ l.length ∧ SlL eRw 25 h 0 n (t 3) (l.take j) ∧ (t 7 = .ro (l.map eRw) ∧ t 8 = .int .i64 l.length) ∧ t 9 = .int .i64 j) l.length
      ⟨0, by simp, by simp, .inl ⟨rfl, rfl⟩, ⟨rfl, by simp only [go_sem]⟩, rfl⟩ fun m t h n ⟨j, i1, i2, i5, i6, i7⟩ => ?_)
    obtain ⟨a7, a8⟩ := i6
    refine W.rseq (k := 1) rfl fun K hK => ?_
    simp only [go_sem, a8, i7]
    refine hK _ _ _ ?_
    clear hK K
    refine W.seq ?_
    refine W.cond rfl (fun hc => ?_) fun hc => ?_
    · refine W.skip ?_
      simp only [go_sem]
      have hj : j < l.length := by simp at hc; omega
      have hg := row_get hj
      have ht : l.take (j + 1) = l.take j ++ [rowAt l j] := by rw [List.take_add_one, hg]; rfl
      have hml : (l.take (j + 1)).map eRw = (l.take j).map eRw ++ [eRw (rowAt l j)] := by rw [ht, List.map_append]; rfl
      have hll : (l.take j).length = j := by rw [List.length_take]; omega
      have hll1 : (l.take (j + 1)).length = j + 1 := by rw [List.length_take]; omega
      refine W.seqk fun K hK => ?_
      have nx : ∀ (t' : Fr) (h' : Heap) (n' : Nat), SlL eRw 25 h' 0 n' (t' 3) (l.take (j + 1)) → (t' 7 = .ro (l.map eRw) ∧ t' 8 = .int .i64 l.length) → t' 9 = .int .i64 j → K t' h' n' := by
        intro t' h' n' e1 e2 e3
        refine hK _ _ _ ?_
        clear hK K
        refine W.region (k := 2) rfl ?_
        simp only [go_sem, e3]
        refine ⟨l.length - (j + 1), by omega, j + 1, rfl, by omega, e1.next rfl (fun x hx hx' => rfl) (by omega) (Nat.le_refl _), e2, ?_⟩
        rw [wrap64 (by omega) (by omega)]; rfl
      clear hK
      refine W.block ?_
      refine W.rseq (k := 4) rfl fun K hK => ?_
      simp only [go_sem, a7, i7, hg, eR_len, eR_scal, eR_tk, eR_dz, List.append_nil]
      refine hK _ _ _ ?_
      clear hK K
      refine W.region (k := 5) rfl ?_
      rcases i5 with ⟨w0, w5⟩ | ⟨b, w5, w1, w2, w3⟩
      · have hj0 : j = 0 := by rw [w0] at hll; exact hll.symm
        simp only [go_sem, w5, eR_len, eR_scal, eR_tk, List.append_nil]
        refine nx _ _ _ (.inr ⟨n + 8, by rw [hll1, hj0]; rfl, by omega, by omega, by rw [hml, w0]; simp only [go_sem]; rfl⟩) ⟨a7, a8⟩ i7
      · have zb : ∀ j, ¬ b = n + j := fun j => by omega
        rw [hll] at w5
        have tkL : ((l.take j).map eRw).take j = (l.take j).map eRw := List.take_of_length_le (by rw [List.length_map, hll]; exact Nat.le_refl _)
        have hln : ((l.take j).map eRw).length = j := by rw [List.length_map, hll]
        simp only [go_sem, w5, w3, zb, tkL, hln, eR_len, eR_scal, eR_tk, List.append_nil, Nat.lt_irrefl, and_false, if_false, ne_eq, not_false_eq_true, Int.reduceEq, show (j + 1) * 100 ≤ 140737488355328 by omega, show (0 : Nat) < 25 by omega, show (0 : Nat) < 100 by omega]
        refine nx _ _ _ (.inr ⟨n + 8, by rw [hll1]; rfl, by omega, by omega, by rw [hml]; simp only [go_sem]⟩) ⟨a7, a8⟩ i7
    · refine W.exit ?_
      simp only [go_sem]
      have hj : j = l.length := by simp at hc; omega
      rw [hj, List.take_length] at i5
      refine W.rseq (k := 2) rfl fun K hK => ?_
      simp only [go_sem]
      refine hK _ _ _ ?_
      clear hK K
      refine W.ret ?_
      simp only [go_sem]
      exact i5.next rfl (fun x hx hx' => rfl) (by omega) (by omega)
  obtain ⟨r, h', n', hb, ho⟩ := fin
  exact ⟨_, h', n', hb, 5, fun fr => ho.frz (d := 3) fun x _ => rfs_rw⟩

end Go.Av

