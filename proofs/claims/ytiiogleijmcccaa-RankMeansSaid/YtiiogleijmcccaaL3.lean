/-
  Layer 9's third statement: the walk. Conditions: none.
-/
import Derived.Test.YtiiogleijmcccaaL2
import Derived.Test.YtiiogleijmcccaaS5
namespace Go.Av
open Go.Proofs
set_option maxRecDepth 100000
set_option linter.unusedSimpArgs false
set_option linter.unusedVariables false

theorem nul_span {g : Gr} (hr : right g = true) {k : Nat} {y : Fc} (hy : (ranksL g false)[k]? = some y) : spanF g [] k 0 0 = decide (0 < y.1) := by
  obtain ⟨_, ⟨b, hb⟩, hsh, _⟩ := ranks_fin (terms := false) hr
  have hp := (hb k).1
  have e := rk_get hy
  rw [Bool.eq_iff_iff, spanF_iff]
  simp only [decide_eq_true_eq]
  constructor
  · intro h
    have := der_rank hr (terms := false) h (.inr rfl) ⟨true, (k : Int)⟩ (by simp)
    simp only [if_true] at this
    omega
  · intro h
    exact null_der hr (Nat.zero_le _) (rk (ranksL g false) k).toNat (k : Int) (by omega) (by omega) (Nat.le_refl _)

theorem prod_span {g : Gr} (hr : right g = true) {w : List Int} {k c : Nat} {z : Fc} (hz : (ranksL g true)[k]? = some z) (h : spanF g w k 0 c = true) : decide (z.1 = 0) = false := by
  have e := rk_get hz
  have := der_rank hr (terms := true) (spanF_iff.1 h) (.inl rfl) ⟨true, (k : Int)⟩ (by simp)
  simp only [if_true] at this
  simp; omega

theorem nul_prod {g : Gr} (hr : right g = true) {k : Nat} {y z : Fc} (hy : (ranksL g false)[k]? = some y) (hz : (ranksL g true)[k]? = some z) (h : 0 < y.1) : decide (z.1 = 0) = false := by
  have : spanF g [] k 0 0 = true := by rw [nul_span hr hy]; simpa using h
  exact prod_span hr hz this

set_option maxHeartbeats 4000000 in
theorem f5 (g : Gr) (hg : g.Small) (u : List Int) (hu : u.length < 2 ^ 60) (hu8 : ∀ x ∈ u, 0 ≤ x ∧ x < 256) : FH pg Tq 5 [.agg (eGr g), .ro (u.map eU8)] h0 0 fun r _ _ => r = .bool true := by
  have hgl : g.prods.length < 2 ^ 60 := hg.1
  refine FH.of (N := 124) (rs := #[.tmp 4]) Try.func5 rfl rfl (of_decide_eq_true rfl) rfl (by decide) ?_
  refine W.rseq (k := 2) rfl fun K hK => ?_
  simp only [go_sem]
  refine hK _ _ _ ?_
  clear hK K
  refine W.seq ?_
  refine W.rseq (k := 2) rfl fun K hK => ?_
  simp only [go_sem]
  refine VCall.frz 6 f27 rfl ?_
  try simp only [go_sem]
  refine hK _ _ _ ?_
  clear hK K
  refine W.condF (by simp only [go_sem]) ?_
  refine W.skip ?_
  simp only [go_sem]
  refine W.seq ?_
  refine W.rseq (k := 18) rfl fun K hK => ?_
  have out : ∀ t h n, t 32 = .bool true → K t h n := by
    intro t h n e
    refine hK _ _ _ ?_
    clear hK K
    refine W.condT (by simp only [go_sem, e]) ?_
    refine W.rseq (k := 1) rfl fun K hK => ?_
    simp only [go_sem]
    refine hK _ _ _ ?_
    clear hK K
    refine W.ret ?_
    simp only [go_sem]
  simp only [go_sem]
  refine VCall.frz 6 (f28 g hg) rfl ?_
  rcases Bool.eq_false_or_eq_true (large g) with hL | hL
  · simp only [go_sem, hL]
    exact out _ _ _ rfl
  simp only [hL]
  by_cases h30 : (30 : Int) < g.prods.length
  · have h' : decide ((30 : Int) < g.prods.length) = true := by simp [h30]
    simp only [go_sem, h']
    exact out _ _ _ rfl
  have h' : decide ((30 : Int) < g.prods.length) = false := by simp [h30]
  simp only [go_sem, h']
  refine VCall.frz 6 (f35 g hg) rfl ?_
  cases hr : right g
  · simp only [go_sem]
    exact out _ _ _ rfl
  by_cases h5 : (5 : Int) < u.length
  · have h' : decide ((5 : Int) < u.length) = true := by simp [h5]
    simp only [go_sem, h']
    exact out _ _ _ rfl
  have h' : decide ((5 : Int) < u.length) = false := by simp [h5]
  simp only [go_sem, h']
  clear out h'
  refine hK _ _ _ ?_
  clear hK K
  refine W.condF (by simp only [go_sem]) ?_
  refine W.skip ?_
  simp only [go_sem]
  have hu5 : u.length ≤ 5 := by omega
  refine W.rseq (k := 1) rfl fun K hK => ?_
  simp only [go_sem]
  refine hK _ _ _ ?_
  clear hK K
  refine W.seq ?_
  refine W.rseq (k := 3) rfl fun K hK => ?_
  simp only [go_sem]
  refine hK _ _ _ ?_
  clear hK K
  refine W.block (W.while (fun m t h n => ∃ k : Nat, m = u.length - k ∧ k ≤ u.length ∧ 1 ≤ n ∧ h 0 = some (.cells [eGr g]) ∧ t 2 = .ptr 0 0 0 ∧ t 33 = .ro (u.map eU8) ∧ t 34 = .int .i64 u.length ∧ t 35 = .int .i64 k ∧ IntL h 1 n (t 5) ((u.take k).map (·.tmod 16))) u.length
    ⟨0, by simp, by simp, by omega, by simp only [go_sem], rfl, rfl, rfl, rfl, .inl ⟨rfl, rfl⟩⟩ fun m t h n ⟨k, i1, i2, i3, i4, i5, i6, i7, i8, i9⟩ => ?_)
  refine W.rseq (k := 1) rfl fun K hK => ?_
  simp only [go_sem, i7, i8]
  refine hK _ _ _ ?_
  clear hK K
  refine W.seq ?_
  refine W.cond rfl (fun hc => ?_) fun hc => ?_
  · refine W.skip ?_
    simp only [go_sem]
    have hk : k < u.length := by simp at hc; omega
    obtain ⟨x, hx⟩ := get_some hk
    have hx8 := hu8 x (List.mem_of_getElem? hx)
    have hwx : IntKind.wrap .i64 x = x := wrap64 (by omega) (by omega)
    have htk : (u.take (k + 1)).map (·.tmod 16) = (u.take k).map (·.tmod 16) ++ [x.tmod 16] := by
      rw [List.take_add_one, hx, List.map_append]; rfl
    refine W.seq (W.block ?_)
    refine W.rseq (k := 3) rfl fun K hK => ?_
    simp only [go_sem, i6, i8, hx]
    refine hK _ _ _ ?_
    clear hK K
    rcases i9 with ⟨e0, e5⟩ | ⟨b, e5, b1, b2, b3⟩
    · refine W.region (k := 7) rfl ?_
      simp only [go_sem, e5, hwx, ne_eq, not_false_eq_true, Int.reduceEq, show (0 : Nat) < 1 by omega, show (0 : Nat) < 8 by omega]
      refine W.region (k := 2) rfl ?_
      simp only [go_sem, i8]
      have hk0 : k = 0 := by
        have hbl : ((u.take k).map (·.tmod 16)).length = k := by rw [List.length_map, List.length_take]; omega
        rw [e0] at hbl; exact hbl.symm
      refine ⟨u.length - (k + 1), by omega, k + 1, rfl, by omega, ?_, i5, i6, i7, ?_, .inr ⟨_, by rw [List.length_map, List.length_take, show min (k + 1) u.length = 1 by omega], by omega, by omega, ?_⟩⟩
      · simp only [go_sem, show ∀ j, ¬ 0 = n + j from fun j => by omega, i4]
      · rw [wrap64 (by omega) (by omega)]; rfl
      · rw [htk, e0]; simp [upd, eIn]
    · have hbl : ((u.take k).map (·.tmod 16)).length = k := by rw [List.length_map, List.length_take]; omega
      rw [hbl] at e5
      refine W.region (k := 7) rfl ?_
      simp only [go_sem, e5, b3, hwx, List.length_map, List.length_take, Nat.min_eq_left i2, ne_eq, not_false_eq_true, Int.reduceEq, show (0 : Nat) < 1 by omega, show (0 : Nat) < 8 by omega, show (k + 1) * 8 ≤ 140737488355328 by omega, show ¬ (k + 1 ≤ k) by omega, show ∀ j, ¬ (b = n + j) from fun j => by omega]
      refine W.region (k := 2) rfl ?_
      simp only [go_sem, i8]
      refine ⟨u.length - (k + 1), by omega, k + 1, rfl, by omega, ?_, i5, i6, i7, ?_, .inr ⟨_, by rw [List.length_map, List.length_take, Nat.min_eq_left (show k + 1 ≤ u.length by omega)], by omega, by omega, ?_⟩⟩
      · simp only [go_sem, show ∀ j, ¬ 0 = n + j from fun j => by omega, show ¬ 0 = b by omega, i4]
      · rw [wrap64 (by omega) (by omega)]; rfl
      · rw [htk]; simp [upd, eIn]
  · refine W.exit ?_
    simp only [go_sem]
    have hk : k = u.length := by simp at hc; omega
    subst hk
    rw [List.take_length] at i9
    obtain ⟨wd, hwd⟩ : ∃ wd, wd = u.map (·.tmod 16) := ⟨_, rfl⟩
    rw [← hwd] at i9
    have hwl : wd.length ≤ 5 := by rw [hwd, List.length_map]; exact hu5
    obtain ⟨M, hMM⟩ : ∃ M, M = g.nons.toNat := ⟨_, rfl⟩
    have hd := right_dom hr
    have hM : (M : Int) = g.nons := by have := hd.1; omega
    have hM30 : M < 2 ^ 30 := by have := hd.2.1; omega
    have h36 := f36 g hg hd wd (by omega)
    have h36' := f36 g hg hd [] (by decide)
    rw [← hMM] at h36 h36'
    obtain ⟨hl1, _⟩ := ranks_fin (terms := false) hr
    obtain ⟨hl2, _⟩ := ranks_fin (terms := true) hr
    refine W.dseq (k := 7) rfl fun K hK => ?_
    simp only [go_sem, i4, i5]
    refine VCall.frz' 6 (as' := [.agg (eGr g), .ro (([] : List Int).map eIn)]) rfl h36' ?_
    simp only [go_sem, i4, i5]
    refine VCall.frzq 20 (rfs_cons rfl (rfs_cons i9.frz rfs_nil)) h36 ?_
    simp only [go_sem]
    refine hK _ _ _ _ (by kernel_rfl) ?_
    clear hK K
    refine W.dseq (k := 6) rfl fun K hK => ?_
    simp only [go_sem, i4, i5]
    refine VCall.frz 6 (OwnFc.pf (f30 g hg)) rfl ?_
    simp only [go_sem, i4, i5]
    refine VCall.frz 6 (OwnFc.pf (f32 g hg)) rfl ?_
    simp only [go_sem]
    refine hK _ _ _ _ (by kernel_rfl) ?_
    clear hK K
    refine W.seq ?_
    refine W.rseq (k := 12) rfl fun K hK => ?_
    simp only [go_sem, i4, i5, hl1, hl2]
    refine hK _ _ _ ?_
    clear hK K
    refine W.condF (by simp only [go_sem]) ?_
    refine W.skip ?_
    simp only [go_sem]
    refine W.seq ?_
    refine W.rseq (k := 3) rfl fun K hK => ?_
    simp only [go_sem, i4, i5]
    refine hK _ _ _ ?_
    clear hK K
    refine W.block (W.while (fun m t h n => ∃ k : Nat, m = M - k ∧ k ≤ M ∧ 1 ≤ n ∧ t 5 = t 5 ∧ t 8 = .ro (e3 M 1 1 (spanF g [])) ∧ t 9 = .ro (e3 M (wd.length + 1) (wd.length + 1) (spanF g wd)) ∧ t 10 = .ro ((ranksL g false).map eFc) ∧ t 11 = .ro ((ranksL g true).map eFc) ∧ t 68 = .int .i64 M ∧ t 69 = .int .i64 k ∧ IntL h 1 n (t 5) wd) M
      ⟨0, by simp, by simp, by omega, rfl, rfl, rfl, rfl, rfl, by simp only [go_sem, hM], rfl, i9.next rfl (fun x _ _ => by simp only [go_sem]) (by omega)⟩ fun m t h n ⟨k, j1, j2, j3, _, j8, j9, j10, j11, j68, j69, jw⟩ => ?_)
    refine W.rseq (k := 1) rfl fun K hK => ?_
    simp only [go_sem, j68, j69]
    refine hK _ _ _ ?_
    clear hK K
    refine W.seq ?_
    refine W.cond rfl (fun hc2 => ?_) fun hc2 => ?_
    · refine W.skip ?_
      simp only [go_sem]
      have hk : k < M := by simp at hc2; omega
      obtain ⟨y, hy⟩ := get_some (show k < (ranksL g false).length by omega)
      obtain ⟨z, hz⟩ := get_some (show k < (ranksL g true).length by omega)
      refine W.seq (W.block ?_)
      refine W.rseq (k := 2) rfl fun K hK => ?_
      simp only [go_sem, j69]
      refine hK _ _ _ ?_
      clear hK K
      have hA := nul_span hr hy
      have jw' := jw
      rcases jw' with ⟨ew, e5⟩ | ⟨b, e5, _, _, _⟩
      · refine W.dseq (k := 51) rfl fun K hK => ?_
        by_cases c1 : 0 < y.1
        · have c1' : decide (0 < y.1) = true := by simp [c1]
          have c2 := nul_prod hr hy hz c1
          cases hsp : spanF g wd k 0 0
          · simp only [go_sem, j8, j9, j10, j11, e5, hy, hz, hA, c1', c2, hsp, beq_self_eq_true, e3_get (m := 1) (k := 1) (f := spanF g []) hk, e2_get (m := 1) (k := 1) (f := spanF g [] k) (show 0 < 1 by omega), e1_get (k := 1) (f := spanF g [] k 0) (show 0 < 1 by omega), e3_get (m := wd.length + 1) (k := wd.length + 1) (f := spanF g wd) hk, e2_get (m := wd.length + 1) (k := wd.length + 1) (f := spanF g wd k) (show 0 < wd.length + 1 by omega), e1_get (k := wd.length + 1) (j := 0) (f := spanF g wd k 0) (by omega)]
            refine hK _ _ _ _ (by kernel_rfl) ?_
            clear hK K
            refine W.condF (by simp only [go_sem]) ?_
            refine W.skip ?_
            simp only [go_sem]
            refine W.region (k := 2) rfl ?_
            simp only [go_sem, j69]
            refine ⟨M - (k + 1), by omega, k + 1, rfl, by omega, j8, j9, j10, j11, j68, ?_, jw.next rfl (fun x _ _ => by simp only [go_sem]) (by omega)⟩
            rw [wrap64 (by omega) (by omega)]; rfl
          · simp only [go_sem, j8, j9, j10, j11, e5, hy, hz, hA, c1', c2, hsp, beq_self_eq_true, e3_get (m := 1) (k := 1) (f := spanF g []) hk, e2_get (m := 1) (k := 1) (f := spanF g [] k) (show 0 < 1 by omega), e1_get (k := 1) (f := spanF g [] k 0) (show 0 < 1 by omega), e3_get (m := wd.length + 1) (k := wd.length + 1) (f := spanF g wd) hk, e2_get (m := wd.length + 1) (k := wd.length + 1) (f := spanF g wd k) (show 0 < wd.length + 1 by omega), e1_get (k := wd.length + 1) (j := 0) (f := spanF g wd k 0) (by omega)]
            refine hK _ _ _ _ (by kernel_rfl) ?_
            clear hK K
            refine W.condF (by simp only [go_sem]) ?_
            refine W.skip ?_
            simp only [go_sem]
            refine W.region (k := 2) rfl ?_
            simp only [go_sem, j69]
            refine ⟨M - (k + 1), by omega, k + 1, rfl, by omega, j8, j9, j10, j11, j68, ?_, jw.next rfl (fun x _ _ => by simp only [go_sem]) (by omega)⟩
            rw [wrap64 (by omega) (by omega)]; rfl
        · have c1' : decide (0 < y.1) = false := by simp [c1]
          cases hsp : spanF g wd k 0 0
          · simp only [go_sem, j8, j9, j10, j11, e5, hy, hz, hA, c1', hsp, beq_self_eq_true, e3_get (m := 1) (k := 1) (f := spanF g []) hk, e2_get (m := 1) (k := 1) (f := spanF g [] k) (show 0 < 1 by omega), e1_get (k := 1) (f := spanF g [] k 0) (show 0 < 1 by omega), e3_get (m := wd.length + 1) (k := wd.length + 1) (f := spanF g wd) hk, e2_get (m := wd.length + 1) (k := wd.length + 1) (f := spanF g wd k) (show 0 < wd.length + 1 by omega), e1_get (k := wd.length + 1) (j := 0) (f := spanF g wd k 0) (by omega)]
            refine hK _ _ _ _ (by kernel_rfl) ?_
            clear hK K
            refine W.condF (by simp only [go_sem]) ?_
            refine W.skip ?_
            simp only [go_sem]
            refine W.region (k := 2) rfl ?_
            simp only [go_sem, j69]
            refine ⟨M - (k + 1), by omega, k + 1, rfl, by omega, j8, j9, j10, j11, j68, ?_, jw.next rfl (fun x _ _ => by simp only [go_sem]) (by omega)⟩
            rw [wrap64 (by omega) (by omega)]; rfl
          · have c2 := prod_span hr hz hsp
            simp only [go_sem, j8, j9, j10, j11, e5, hy, hz, hA, c1', c2, hsp, beq_self_eq_true, e3_get (m := 1) (k := 1) (f := spanF g []) hk, e2_get (m := 1) (k := 1) (f := spanF g [] k) (show 0 < 1 by omega), e1_get (k := 1) (f := spanF g [] k 0) (show 0 < 1 by omega), e3_get (m := wd.length + 1) (k := wd.length + 1) (f := spanF g wd) hk, e2_get (m := wd.length + 1) (k := wd.length + 1) (f := spanF g wd k) (show 0 < wd.length + 1 by omega), e1_get (k := wd.length + 1) (j := 0) (f := spanF g wd k 0) (by omega)]
            refine hK _ _ _ _ (by kernel_rfl) ?_
            clear hK K
            refine W.condF (by simp only [go_sem]) ?_
            refine W.skip ?_
            simp only [go_sem]
            refine W.region (k := 2) rfl ?_
            simp only [go_sem, j69]
            refine ⟨M - (k + 1), by omega, k + 1, rfl, by omega, j8, j9, j10, j11, j68, ?_, jw.next rfl (fun x _ _ => by simp only [go_sem]) (by omega)⟩
            rw [wrap64 (by omega) (by omega)]; rfl
      · refine W.dseq (k := 51) rfl fun K hK => ?_
        by_cases c1 : 0 < y.1
        · have c1' : decide (0 < y.1) = true := by simp [c1]
          have c2 := nul_prod hr hy hz c1
          cases hsp : spanF g wd k 0 wd.length
          · simp only [go_sem, j8, j9, j10, j11, e5, hy, hz, hA, c1', c2, hsp, beq_self_eq_true, e3_get (m := 1) (k := 1) (f := spanF g []) hk, e2_get (m := 1) (k := 1) (f := spanF g [] k) (show 0 < 1 by omega), e1_get (k := 1) (f := spanF g [] k 0) (show 0 < 1 by omega), e3_get (m := wd.length + 1) (k := wd.length + 1) (f := spanF g wd) hk, e2_get (m := wd.length + 1) (k := wd.length + 1) (f := spanF g wd k) (show 0 < wd.length + 1 by omega), e1_get (k := wd.length + 1) (j := wd.length) (f := spanF g wd k 0) (by omega)]
            refine hK _ _ _ _ (by kernel_rfl) ?_
            clear hK K
            refine W.condF (by simp only [go_sem]) ?_
            refine W.skip ?_
            simp only [go_sem]
            refine W.region (k := 2) rfl ?_
            simp only [go_sem, j69]
            refine ⟨M - (k + 1), by omega, k + 1, rfl, by omega, j8, j9, j10, j11, j68, ?_, jw.next rfl (fun x _ _ => by simp only [go_sem]) (by omega)⟩
            rw [wrap64 (by omega) (by omega)]; rfl
          · simp only [go_sem, j8, j9, j10, j11, e5, hy, hz, hA, c1', c2, hsp, beq_self_eq_true, e3_get (m := 1) (k := 1) (f := spanF g []) hk, e2_get (m := 1) (k := 1) (f := spanF g [] k) (show 0 < 1 by omega), e1_get (k := 1) (f := spanF g [] k 0) (show 0 < 1 by omega), e3_get (m := wd.length + 1) (k := wd.length + 1) (f := spanF g wd) hk, e2_get (m := wd.length + 1) (k := wd.length + 1) (f := spanF g wd k) (show 0 < wd.length + 1 by omega), e1_get (k := wd.length + 1) (j := wd.length) (f := spanF g wd k 0) (by omega)]
            refine hK _ _ _ _ (by kernel_rfl) ?_
            clear hK K
            refine W.condF (by simp only [go_sem]) ?_
            refine W.skip ?_
            simp only [go_sem]
            refine W.region (k := 2) rfl ?_
            simp only [go_sem, j69]
            refine ⟨M - (k + 1), by omega, k + 1, rfl, by omega, j8, j9, j10, j11, j68, ?_, jw.next rfl (fun x _ _ => by simp only [go_sem]) (by omega)⟩
            rw [wrap64 (by omega) (by omega)]; rfl
        · have c1' : decide (0 < y.1) = false := by simp [c1]
          cases hsp : spanF g wd k 0 wd.length
          · simp only [go_sem, j8, j9, j10, j11, e5, hy, hz, hA, c1', hsp, beq_self_eq_true, e3_get (m := 1) (k := 1) (f := spanF g []) hk, e2_get (m := 1) (k := 1) (f := spanF g [] k) (show 0 < 1 by omega), e1_get (k := 1) (f := spanF g [] k 0) (show 0 < 1 by omega), e3_get (m := wd.length + 1) (k := wd.length + 1) (f := spanF g wd) hk, e2_get (m := wd.length + 1) (k := wd.length + 1) (f := spanF g wd k) (show 0 < wd.length + 1 by omega), e1_get (k := wd.length + 1) (j := wd.length) (f := spanF g wd k 0) (by omega)]
            refine hK _ _ _ _ (by kernel_rfl) ?_
            clear hK K
            refine W.condF (by simp only [go_sem]) ?_
            refine W.skip ?_
            simp only [go_sem]
            refine W.region (k := 2) rfl ?_
            simp only [go_sem, j69]
            refine ⟨M - (k + 1), by omega, k + 1, rfl, by omega, j8, j9, j10, j11, j68, ?_, jw.next rfl (fun x _ _ => by simp only [go_sem]) (by omega)⟩
            rw [wrap64 (by omega) (by omega)]; rfl
          · have c2 := prod_span hr hz hsp
            simp only [go_sem, j8, j9, j10, j11, e5, hy, hz, hA, c1', c2, hsp, beq_self_eq_true, e3_get (m := 1) (k := 1) (f := spanF g []) hk, e2_get (m := 1) (k := 1) (f := spanF g [] k) (show 0 < 1 by omega), e1_get (k := 1) (f := spanF g [] k 0) (show 0 < 1 by omega), e3_get (m := wd.length + 1) (k := wd.length + 1) (f := spanF g wd) hk, e2_get (m := wd.length + 1) (k := wd.length + 1) (f := spanF g wd k) (show 0 < wd.length + 1 by omega), e1_get (k := wd.length + 1) (j := wd.length) (f := spanF g wd k 0) (by omega)]
            refine hK _ _ _ _ (by kernel_rfl) ?_
            clear hK K
            refine W.condF (by simp only [go_sem]) ?_
            refine W.skip ?_
            simp only [go_sem]
            refine W.region (k := 2) rfl ?_
            simp only [go_sem, j69]
            refine ⟨M - (k + 1), by omega, k + 1, rfl, by omega, j8, j9, j10, j11, j68, ?_, jw.next rfl (fun x _ _ => by simp only [go_sem]) (by omega)⟩
            rw [wrap64 (by omega) (by omega)]; rfl
    · refine W.exit ?_
      simp only [go_sem]
      refine W.rseq (k := 1) rfl fun K hK => ?_
      simp only [go_sem]
      refine hK _ _ _ ?_
      clear hK K
      refine W.ret ?_
      simp only [go_sem]

end Go.Av

