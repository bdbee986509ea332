/-
  Layer 11's statement FirstMeans: the walk. Conditions: none.
-/
import Derived.Test.YtiiogleijmcccaaC11b
namespace Go.Av
open Go.Proofs
set_option maxRecDepth 100000
set_option linter.unusedSimpArgs false
set_option linter.unusedVariables false

set_option maxHeartbeats 4000000 in
theorem f10 (g : Gr) (hg : g.Small) (u : List Int) (hu : u.length < 2 ^ 60) (hu8 : ∀ x ∈ u, 0 ≤ x ∧ x < 256) : FH pg Tq 10 [.agg (eGr g), .ro (u.map eU8)] h0 0 fun r _ _ => r = .bool true := by
  have hgl : g.prods.length < 2 ^ 60 := hg.1
  refine FH.of (N := 93) (rs := #[.tmp 4]) Try.func10 rfl rfl (of_decide_eq_true rfl) rfl (by decide) ?_
  refine W.rseq (k := 2) rfl fun K hK => ?_
  simp only [go_sem]
  refine hK _ _ _ ?_
  clear hK K
  refine W.seq ?_
  refine W.rseq (k := 2) rfl fun K hK => ?_
  simp only [go_sem]
  refine VCall.frz 6 f42 rfl ?_
  try simp only [go_sem]
  refine hK _ _ _ ?_
  clear hK K
  refine W.condF (by simp only [go_sem]) ?_
  refine W.skip ?_
  simp only [go_sem]
  refine W.seq ?_
  refine W.rseq (k := 23) rfl fun K hK => ?_
  have out : ∀ t h n, t 36 = .bool true → K t h n := by
    intro t h n e
    refine hK _ _ _ ?_
    clear hK K
    refine W.condT (by simp only [go_sem, e]) ?_
    refine W.rseq (k := 1) rfl fun K hK => ?_
    simp only [go_sem]
    refine hK _ _ _ ?_
    clear hK K
    refine W.ret ?_
    simp only [go_sem]
  simp only [go_sem]
  refine VCall.frz 6 (f28 g hg) rfl ?_
  rcases Bool.eq_false_or_eq_true (large g) with hL | hL
  · simp only [go_sem, hL]
    exact out _ _ _ rfl
  simp only [hL]
  by_cases h30 : (30 : Int) < g.prods.length
  · simp only [go_sem, show decide ((30 : Int) < g.prods.length) = true by simp [h30]]
    exact out _ _ _ rfl
  simp only [go_sem, show decide ((30 : Int) < g.prods.length) = false by simp [h30]]
  refine VCall.frz 6 (f35 g hg) rfl ?_
  cases hr : right g
  · simp only [go_sem]
    exact out _ _ _ rfl
  by_cases hz : (u.length : Int) = 0
  · simp only [go_sem, hz]
    exact out _ _ _ rfl
  by_cases h5 : (5 : Int) < u.length
  · simp only [go_sem, show decide ((u.length : Int) = 0) = false from decide_eq_false hz, show decide ((5 : Int) < u.length) = true by simp [h5]]
    exact out _ _ _ rfl
  simp only [go_sem, show decide ((u.length : Int) = 0) = false from decide_eq_false hz, show decide ((5 : Int) < u.length) = false by simp [h5]]
  clear out
  refine hK _ _ _ ?_
  first | clear hK K | clear hK | skip
  refine W.condF (by simp only [go_sem]) ?_
  refine W.skip ?_
  simp only [go_sem]
  have hu5 : u.length ≤ 5 := by omega
  refine W.rseq (k := 1) rfl fun K hK => ?_
  simp only [go_sem]
  refine hK _ _ _ ?_
  clear hK K
  refine W.seq ?_
  refine W.rseq (k := 3) rfl fun K hK => ?_
  simp only [go_sem]
  refine hK _ _ _ ?_
  clear hK K
  refine W.block (W.while (fun m t h n => ∃ k : Nat, m = u.length - k ∧ k ≤ u.length ∧ 1 ≤ n ∧ h 0 = some (.cells [eGr g]) ∧ t 2 = .ptr 0 0 0 ∧ t 37 = .ro (u.map eU8) ∧ t 38 = .int .i64 u.length ∧ t 39 = .int .i64 k ∧ IntL h 1 n (t 5) ((u.take k).map (·.tmod 16))) u.length
    ⟨0, by simp, by simp, by omega, by simp only [go_sem], rfl, rfl, rfl, rfl, .inl ⟨rfl, rfl⟩⟩ fun m t h n ⟨k, i1, i2, i3, i4, i5, i6, i7, i8, i9⟩ => ?_)
  refine W.rseq (k := 1) rfl fun K hK => ?_
  simp only [go_sem, i7, i8]
  refine hK _ _ _ ?_
  clear hK K
  refine W.seq ?_
  refine W.cond rfl (fun hc => ?_) fun hc => ?_
  · refine W.skip ?_
    simp only [go_sem]
    have hk : k < u.length := by simp at hc; omega
    obtain ⟨x, hx⟩ := get_some hk
    have hx8 := hu8 x (List.mem_of_getElem? hx)
    have hwx : IntKind.wrap .i64 x = x := wrap64 (by omega) (by omega)
    have htk : (u.take (k + 1)).map (·.tmod 16) = (u.take k).map (·.tmod 16) ++ [x.tmod 16] := by
      rw [List.take_add_one, hx, List.map_append]; rfl
    refine W.seq (W.block ?_)
    refine W.rseq (k := 3) rfl fun K hK => ?_
    simp only [go_sem, i6, i8, hx]
    refine hK _ _ _ ?_
    clear hK K
    rcases i9 with ⟨e0, e5⟩ | ⟨b, e5, b1, b2, b3⟩
    · refine W.region (k := 7) rfl ?_
      simp only [go_sem, e5, hwx, ne_eq, not_false_eq_true, Int.reduceEq, show (0 : Nat) < 1 by omega, show (0 : Nat) < 8 by omega]
      refine W.region (k := 2) rfl ?_
      simp only [go_sem, i8]
      have hk0 : k = 0 := by
        have hbl : ((u.take k).map (·.tmod 16)).length = k := by rw [List.length_map, List.length_take]; omega
        rw [e0] at hbl; exact hbl.symm
      refine ⟨u.length - (k + 1), by omega, k + 1, rfl, by omega, ?_, i5, i6, i7, ?_, .inr ⟨_, by rw [List.length_map, List.length_take, show min (k + 1) u.length = 1 by omega], by omega, by omega, ?_⟩⟩
      · simp only [go_sem, show ∀ j, ¬ 0 = n + j from fun j => by omega, i4]
      · rw [wrap64 (by omega) (by omega)]; rfl
      · rw [htk, e0]; simp [upd, eIn]
    · have hbl : ((u.take k).map (·.tmod 16)).length = k := by rw [List.length_map, List.length_take]; omega
      rw [hbl] at e5
      refine W.region (k := 7) rfl ?_
      simp only [go_sem, e5, b3, hwx, List.length_map, List.length_take, Nat.min_eq_left i2, ne_eq, not_false_eq_true, Int.reduceEq, show (0 : Nat) < 1 by omega, show (0 : Nat) < 8 by omega, show (k + 1) * 8 ≤ 140737488355328 by omega, show ¬ (k + 1 ≤ k) by omega, show ∀ j, ¬ (b = n + j) from fun j => by omega]
      refine W.region (k := 2) rfl ?_
      simp only [go_sem, i8]
      refine ⟨u.length - (k + 1), by omega, k + 1, rfl, by omega, ?_, i5, i6, i7, ?_, .inr ⟨_, by rw [List.length_map, List.length_take, Nat.min_eq_left (show k + 1 ≤ u.length by omega)], by omega, by omega, ?_⟩⟩
      · simp only [go_sem, show ∀ j, ¬ 0 = n + j from fun j => by omega, show ¬ 0 = b by omega, i4]
      · rw [wrap64 (by omega) (by omega)]; rfl
      · rw [htk]; simp [upd, eIn]
  · refine W.exit ?_
    simp only [go_sem]
    have hk : k = u.length := by simp at hc; omega
    subst hk
    rw [List.take_length] at i9
    obtain ⟨wd, hwd⟩ : ∃ wd, wd = u.map (·.tmod 16) := ⟨_, rfl⟩
    rw [← hwd] at i9
    have hwl : wd.length ≤ 5 := by rw [hwd, List.length_map]; exact hu5
    obtain ⟨M, hMM⟩ : ∃ M, M = g.nons.toNat := ⟨_, rfl⟩
    have hd := right_dom hr
    have hM : (M : Int) = g.nons := by have := hd.1; omega
    have hM30 : M < 2 ^ 30 := by have := hd.2.1; omega
    have h36 := f36 g hg hd wd (by omega)
    rw [← hMM] at h36
    obtain ⟨f1, f2, _, _⟩ := first_fin hr
    have hf1 : ((firstL g).length : Int) = g.nons := by omega
    refine W.rseq (k := 3) rfl fun K hK => ?_
    simp only [go_sem, i4, i5]
    refine VCall.frz 6 (OwnU3.pf (f45 g hg)) rfl ?_
    try simp only [go_sem, i4, i5]
    refine hK _ _ _ ?_
    clear hK K
    refine W.seq ?_
    refine W.rseq (k := 5) rfl fun K hK => ?_
    simp only [go_sem, i4, i5, hf1]
    refine hK _ _ _ ?_
    clear hK K
    refine W.condF (by simp only [go_sem]) ?_
    refine W.skip ?_
    simp only [go_sem]
    obtain ⟨bw, e5w, bw1, bw2, bw3⟩ : ∃ b, t 5 = .sl b 0 wd.length 1 ∧ 1 ≤ b ∧ b < n ∧ h b = some (.cells (wd.map eIn)) := by
      rcases i9 with ⟨e, _⟩ | h
      · exfalso
        have : wd.length = u.length := by rw [hwd, List.length_map]
        rw [e] at this; simp at this; omega
      · exact h
    have hwl1 : 1 ≤ wd.length := by have : wd.length = u.length := by rw [hwd, List.length_map]
                                    omega
    obtain ⟨c0, hc0⟩ := get_some (show 0 < wd.length by omega)
    have hc0r : 0 ≤ c0 ∧ c0 < 16 := by
      have hmem := List.mem_of_getElem? hc0
      rw [hwd, List.mem_map] at hmem
      obtain ⟨x, hx, rfl⟩ := hmem
      have := hu8 x hx
      rw [Int.tmod_eq_emod_of_nonneg this.1]
      omega
    obtain ⟨τ, rfl⟩ : ∃ τ : Nat, c0 = τ := ⟨c0.toNat, by omega⟩
    refine W.rseq (k := 4) rfl fun K hK => ?_
    simp only [go_sem, i4, i5]
    refine VCall.frzq 20 (rfs_cons rfl (rfs_cons (i9.next rfl (fun x _ _ => by simp only [go_sem]) (Nat.le_refl _)).frz rfs_nil)) h36 ?_
    simp only [go_sem]
    refine hK _ _ _ ?_
    first | clear hK K | clear hK | skip
    refine W.seq ?_
    refine W.rseq (k := 3) rfl fun K hK => ?_
    simp only [go_sem, i4, i5]
    refine hK _ _ _ ?_
    clear hK K
    refine W.block (W.while (fun m t h n => ∃ k : Nat, m = M - k ∧ k ≤ M ∧ bw < n ∧ t 5 = .sl bw 0 wd.length 1 ∧ t 8 = .ro ((firstL g).map eU3) ∧ t 9 = .ro (e3 M (wd.length + 1) (wd.length + 1) (spanF g wd)) ∧ t 61 = .int .i64 M ∧ t 62 = .int .i64 k ∧ h bw = some (.cells (wd.map eIn))) M
      ⟨0, by simp, by simp, by omega, e5w, rfl, rfl, by simp only [go_sem, hM], rfl, by simp only [go_sem, bw3]⟩ fun m t h n ⟨k, j1, j2, j3, j5, j8, j9, j61, j62, jb⟩ => ?_)
    refine W.rseq (k := 1) rfl fun K hK => ?_
    simp only [go_sem, j61, j62]
    refine hK _ _ _ ?_
    clear hK K
    refine W.seq ?_
    refine W.cond rfl (fun hc2 => ?_) fun hc2 => ?_
    · refine W.skip ?_
      simp only [go_sem]
      have hk : k < M := by simp at hc2; omega
      have hkf : (firstL g)[k]? = some ((firstL g).getD k 0) := by simp [show k < (firstL g).length by omega]
      have hlt := getD_lt f2 k
      refine W.seq (W.block ?_)
      refine W.rseq (k := 2) rfl fun K hK => ?_
      simp only [go_sem, j62]
      refine hK _ _ _ ?_
      clear hK K
      refine W.rseq (k := 1) rfl fun K hK => ?_
      simp only [go_sem]
      refine hK _ _ _ ?_
      clear hK K
      refine W.block (W.while (fun m t h n => ∃ e : Nat, m = wd.length + 1 - e ∧ 1 ≤ e ∧ e ≤ wd.length + 1 ∧ bw < n ∧ t 5 = .sl bw 0 wd.length 1 ∧ t 8 = .ro ((firstL g).map eU3) ∧ t 9 = .ro (e3 M (wd.length + 1) (wd.length + 1) (spanF g wd)) ∧ t 10 = .int .i64 k ∧ t 11 = .int .i64 e ∧ t 61 = .int .i64 M ∧ t 62 = .int .i64 k ∧ h bw = some (.cells (wd.map eIn))) wd.length
        ⟨1, by omega, by omega, by omega, by omega, j5, j8, j9, rfl, rfl, j61, j62, by simp only [go_sem, jb]⟩ fun m t h n ⟨e, k1, k2, k3, k4, k5, k8, k9, k10, k11, k61, k62, kb⟩ => ?_)
      refine W.seq ?_
      refine W.rseq (k := 4) rfl fun K hK => ?_
      simp only [go_sem, k5, k11]
      refine hK _ _ _ ?_
      clear hK K
      refine W.cond rfl (fun hc3 => ?_) fun hc3 => ?_
      · refine W.skip ?_
        simp only [go_sem]
        have he : e < wd.length + 1 := by simp at hc3; omega
        refine W.seq (W.block ?_)
        cases hsp : spanF g wd k 0 e
        · refine W.dseq (k := 21) rfl fun K hK => ?_
          simp only [go_sem, k9, k10, k11, hsp, e3_get (m := wd.length + 1) (k := wd.length + 1) (f := spanF g wd) hk, e2_get (m := wd.length + 1) (k := wd.length + 1) (f := spanF g wd k) (show 0 < wd.length + 1 by omega), e1_get (k := wd.length + 1) (j := e) (f := spanF g wd k 0) he]
          refine hK _ _ _ _ (by kernel_rfl) ?_
          clear hK K
          refine W.condF (by simp only [go_sem]) ?_
          refine W.skip ?_
          simp only [go_sem]
          refine W.region (k := 3) rfl ?_
          simp only [go_sem, k11]
          refine ⟨wd.length + 1 - (e + 1), by omega, e + 1, rfl, by omega, by omega, by omega, k5, k8, k9, k10, ?_, k61, k62, kb⟩
          rw [wrap64 (by omega) (by omega)]; rfl
        · have hbit := first_means hr (hMM ▸ hk) hsp k2 hc0
          refine W.dseq (k := 21) rfl fun K hK => ?_
          simp only [go_sem, k5, k8, k9, k10, k11, kb, hsp, hkf, hc0, e3_get (m := wd.length + 1) (k := wd.length + 1) (f := spanF g wd) hk, e2_get (m := wd.length + 1) (k := wd.length + 1) (f := spanF g wd k) (show 0 < wd.length + 1 by omega), e1_get (k := wd.length + 1) (j := e) (f := spanF g wd k 0) he, shr32 (x := (firstL g).getD k 0) (show τ < 32 by omega), and32 (x := (firstL g).getD k 0 / 2 ^ τ) (Nat.lt_of_le_of_lt (Nat.div_le_self _ _) hlt), bit_zero, hbit, show bw < n + 4 by omega, show (0 : Int) < (wd.length : Int) by omega, show 0 < wd.length by omega]
          refine hK _ _ _ _ (by kernel_rfl) ?_
          clear hK K
          refine W.condF (by simp only [go_sem]) ?_
          refine W.skip ?_
          simp only [go_sem]
          refine W.region (k := 3) rfl ?_
          simp only [go_sem, k11]
          refine ⟨wd.length + 1 - (e + 1), by omega, e + 1, rfl, by omega, by omega, by omega, k5, k8, k9, k10, ?_, k61, k62, kb⟩
          rw [wrap64 (by omega) (by omega)]; rfl
      · refine W.exit ?_
        simp only [go_sem]
        refine W.region (k := 2) rfl ?_
        simp only [go_sem, k62]
        refine ⟨M - (k + 1), by omega, k + 1, rfl, by omega, by omega, k5, k8, k9, k61, ?_, kb⟩
        rw [wrap64 (by omega) (by omega)]; rfl
    · refine W.exit ?_
      simp only [go_sem]
      refine W.rseq (k := 1) rfl fun K hK => ?_
      simp only [go_sem]
      refine hK _ _ _ ?_
      clear hK K
      refine W.ret ?_
      simp only [go_sem]

end Go.Av

