/-
  Layer 11's statement FirstLeast: the walk. Conditions: none.
-/
import Derived.Test.YtiiogleijmcccaaC11c
namespace Go.Av
open Go.Proofs
set_option maxRecDepth 100000
set_option linter.unusedSimpArgs false
set_option linter.unusedVariables false

set_option maxHeartbeats 4000000 in
theorem f11 (g : Gr) (hg : g.Small) : FH pg Tq 11 [.agg (eGr g)] h0 0 fun r _ _ => r = .bool true := by
  have hgl : g.prods.length < 2 ^ 60 := hg.1
  refine FH.of (N := 95) (rs := #[.tmp 2]) Try.func11 rfl rfl (of_decide_eq_true rfl) rfl (by decide) ?_
  refine W.rseq (k := 2) rfl fun K hK => ?_
  simp only [go_sem]
  refine hK _ _ _ ?_
  clear hK K
  refine W.seq ?_
  refine W.rseq (k := 2) rfl fun K hK => ?_
  simp only [go_sem]
  refine VCall.frz 6 f42 rfl ?_
  try simp only [go_sem]
  refine hK _ _ _ ?_
  clear hK K
  refine W.condF (by simp only [go_sem]) ?_
  refine W.skip ?_
  simp only [go_sem]
  refine W.seq ?_
  refine W.rseq (k := 7) rfl fun K hK => ?_
  have out : ∀ t h n, t 20 = .bool true → K t h n := by
    intro t h n e
    refine hK _ _ _ ?_
    clear hK K
    refine W.condT (by simp only [go_sem, e]) ?_
    refine W.rseq (k := 1) rfl fun K hK => ?_
    simp only [go_sem]
    refine hK _ _ _ ?_
    clear hK K
    refine W.ret ?_
    simp only [go_sem]
  simp only [go_sem]
  refine VCall.frz 6 (f28 g hg) rfl ?_
  rcases Bool.eq_false_or_eq_true (large g) with hL | hL
  · simp only [go_sem, hL]
    exact out _ _ _ rfl
  simp only [hL]
  simp only [go_sem]
  refine VCall.frz 6 (f35 g hg) rfl ?_
  cases hr : right g
  · simp only [go_sem]
    exact out _ _ _ rfl
  clear out
  simp only [go_sem]
  refine hK _ _ _ ?_
  first | clear hK K | clear hK | skip
  refine W.condF (by simp only [go_sem]) ?_
  refine W.skip ?_
  simp only [go_sem]
  obtain ⟨f1, f2, f3, f4⟩ := first_fin hr
  obtain ⟨⟨hn1, hn2⟩, ⟨ht1, ht2⟩, _, hp60, hright⟩ := right_in hr
  obtain ⟨M, hM⟩ : ∃ M, M = g.nons.toNat := ⟨_, rfl⟩
  have hMn : g.nons = (M : Int) := by omega
  rw [← hM] at f1
  have hfl : ((firstL g).length : Int) = M := by omega
  obtain ⟨τ, hτ⟩ : ∃ τ : Nat, g.terms = τ := ⟨g.terms.toNat, by omega⟩
  refine W.rseq (k := 3) rfl fun K hK => ?_
  simp only [go_sem]
  refine VCall.frz 6 (OwnU3.pf (f45 g hg)) rfl ?_
  try simp only [go_sem]
  refine hK _ _ _ ?_
  clear hK K
  refine W.seq ?_
  refine W.rseq (k := 5) rfl fun K hK => ?_
  simp only [go_sem, hMn, hfl]
  refine hK _ _ _ ?_
  clear hK K
  refine W.condF (by simp only [go_sem]) ?_
  refine W.skip ?_
  simp only [go_sem]
  have hrep : List.replicate M [AV.int .u32 0] = (List.replicate M 0).map eU3 := by simp [eU3]
  refine W.rseq (k := 4) rfl fun K hK => ?_
  simp only [go_sem, hMn, hrep, show (0 : Int) ≤ (M : Int) by omega, show (M : Int) * 4 ≤ 140737488355328 by omega, show (0 : Nat) < 4 by omega, show (0 : Nat) < 1 by omega]
  refine hK _ _ _ ?_
  clear hK K
  obtain ⟨ba, hba⟩ : ∃ ba, ba = 21 := ⟨_, rfl⟩
  refine W.seq ?_
  refine W.rseq (k := 4) rfl fun K hK => ?_
  simp only [go_sem, hMn]
  refine hK _ _ _ ?_
  clear hK K
  refine W.block (W.while (fun m t h n => ∃ (j : Nat) (acc : List Nat), m = g.prods.length - j ∧ j ≤ g.prods.length ∧ Lt32 acc ∧ acc.length = M ∧ acc = (g.prods.take j).foldl (orF g) (List.replicate M 0) ∧ ba < n ∧ t 1 = .ptr 0 0 0 ∧ t 3 = .ro ((firstL g).map eU3) ∧ t 4 = .sl ba 0 M 1 ∧ t 32 = .ro (g.prods.map ePr) ∧ t 33 = .int .i64 g.prods.length ∧ t 34 = .int .i64 j ∧
      h 0 = some (.cells [eGr g]) ∧ h ba = some (.cells (acc.map eU3))) g.prods.length
    ⟨0, List.replicate M 0, by simp, by simp, fun s hs => by rw [List.mem_replicate] at hs; rw [hs.2]; decide, by simp, rfl, by omega, rfl, rfl, by simp only [go_sem, hba], rfl, rfl, rfl, by simp only [go_sem, hMn], by simp only [go_sem, hba]⟩ fun m t h n ⟨j, acc, i1, i2, i3, i4, i5, i6, i7, i8, i9, i10, i11, i12, i13, i14⟩ => ?_)
  refine W.rseq (k := 1) rfl fun K hK => ?_
  simp only [go_sem, i11, i12]
  refine hK _ _ _ ?_
  clear hK K
  refine W.seq ?_
  refine W.cond rfl (fun hc => ?_) fun hc => ?_
  · refine W.skip ?_
    simp only [go_sem]
    have hj : j < g.prods.length := by simp at hc; omega
    obtain ⟨p, hp⟩ := get_some hj
    have hm : p ∈ g.prods := List.mem_of_getElem? hp
    have hpl := (hright p hm).1
    obtain ⟨ν, hν⟩ : ∃ ν : Nat, p.left = ν := ⟨p.left.toNat, by omega⟩
    have hνM : ν < M := by omega
    have hνt : p.left.toNat = ν := by omega
    have hgs : acc[ν]? = some (acc.getD ν 0) := by simp [show ν < acc.length by omega]
    have hlt := getD_lt i3 ν
    have hol := ofL_lt (g := g) p.right
    have z0 : ∀ i, ¬ (0 = n + i) := fun i => by omega
    have za : ∀ i, ¬ (ba = n + i) := fun i => by omega
    have hstep : (g.prods.take (j + 1)).foldl (orF g) (List.replicate M 0) = acc.set ν (acc.getD ν 0 ||| (ofL g p.right).1) := by
      rw [List.take_add_one, hp, List.foldl_append, ← i5, ← hνt]; rfl
    refine W.seq (W.block ?_)
    refine W.rseq (k := 4) rfl fun K hK => ?_
    simp only [go_sem, i10, i12, hp]
    refine hK _ _ _ ?_
    clear hK K
    refine W.rseq (k := 9) rfl fun K hK => ?_
    simp only [go_sem, i7, z0, i13]
    refine VCall.frz 6 (f43 g hg p.right (hg.2 p hm)) rfl ?_
    simp only [go_sem]
    refine hK _ _ _ ?_
    first | clear hK K | clear hK | skip
    refine W.region (k := 9) rfl ?_
    simp only [go_sem, i9, za, i14, hν, hgs, show (ν : Int) < (M : Int) by omega, or32 hlt hol, show ν < acc.length by omega]
    refine W.region (k := 2) rfl ?_
    simp only [go_sem, i12]
    refine ⟨g.prods.length - (j + 1), by omega, j + 1, acc.set ν (acc.getD ν 0 ||| (ofL g p.right).1), rfl, by omega, i3.set (Nat.or_lt_two_pow hlt hol), by simpa using i4, hstep.symm, by omega, i7, i8, i9, i10, i11, ?_, ?_, ?_⟩
    · rw [wrap64 (by omega) (by omega)]; rfl
    · simp only [go_sem, z0, show ¬ 0 = ba by omega, i13]
    · simp only [go_sem, List.map_set]
  · refine W.exit ?_
    simp only [go_sem]
    have hj : j = g.prods.length := by simp at hc; omega
    subst hj
    rw [List.take_length, hM, all_first hr] at i5
    subst i5
    refine W.seq ?_
    refine W.rseq (k := 3) rfl fun K hK => ?_
    simp only [go_sem, i7, i13, hMn]
    refine hK _ _ _ ?_
    clear hK K
    refine W.block (W.while (fun m t h n => ∃ k : Nat, m = M - k ∧ k ≤ M ∧ ba < n ∧ t 1 = .ptr 0 0 0 ∧ t 3 = .ro ((firstL g).map eU3) ∧ t 4 = .sl ba 0 M 1 ∧ t 55 = .int .i64 M ∧ t 56 = .int .i64 k ∧ h 0 = some (.cells [eGr g]) ∧ h ba = some (.cells ((firstL g).map eU3))) M
      ⟨0, by simp, by simp, by omega, i7, i8, i9, by simp only [go_sem, hMn], rfl, by simp only [go_sem, i13], by simp only [go_sem, i14]⟩ fun m t h n ⟨k, k1, k2, k3, k4, k5, k6, k7, k8, k9, k10⟩ => ?_)
    refine W.rseq (k := 1) rfl fun K hK => ?_
    simp only [go_sem, k7, k8]
    refine hK _ _ _ ?_
    clear hK K
    refine W.seq ?_
    refine W.cond rfl (fun hc2 => ?_) fun hc2 => ?_
    · refine W.skip ?_
      simp only [go_sem]
      have hk : k < M := by simp at hc2; omega
      have hkf : (firstL g)[k]? = some ((firstL g).getD k 0) := by simp [show k < (firstL g).length by omega]
      have z0 : ∀ i, ¬ (0 = n + i) := fun i => by omega
      have za : ∀ i, ¬ (ba = n + i) := fun i => by omega
      have h43 := f43 g hg [⟨true, (k : Int)⟩] (show 1 < 2 ^ 60 by decide)
      rw [of_one hr (by omega)] at h43
      have hsh := first_terms hr (k := k) (by omega) hτ
      refine W.seq (W.block ?_)
      refine W.rseq (k := 2) rfl fun K hK => ?_
      simp only [go_sem, k8]
      refine hK _ _ _ ?_
      clear hK K
      refine W.rseq (k := 10) rfl fun K hK => ?_
      simp only [go_sem, k4, z0, k9, show (0 : Nat) < 2 by omega, show ¬ (1 : Nat) = 0 by omega, show (0 : Nat) < 1 by omega]
      refine VCall.frzq 20 (rfs_cons rfl (rfs_cons (rf_sla (es' := [[.bool true, .int .i64 (k : Int)]]) (by simp only [go_sem]; rfl) rfl (by simp [rfe, rfs, rf])) rfs_nil)) h43 ?_
      simp only [go_sem]
      refine hK _ _ _ ?_
      first | clear hK K | clear hK | skip
      refine W.dseq (k := 27) rfl fun K hK => ?_
      simp only [go_sem, k4, k5, k6, z0, za, k9, k10, hkf, hτ, shr32 (x := (firstL g).getD k 0) (show τ < 32 by omega), hsh, show (k : Int) < (M : Int) by omega, show ba < n + 13 by omega, show 0 < n + 13 by omega, Int.natCast_zero]
      refine hK _ _ _ _ (by kernel_rfl) ?_
      clear hK K
      refine W.condF (by simp only [go_sem]) ?_
      refine W.skip ?_
      simp only [go_sem]
      refine W.region (k := 2) rfl ?_
      simp only [go_sem, k8]
      refine ⟨M - (k + 1), by omega, k + 1, rfl, by omega, by omega, k4, k5, k6, k7, ?_, ?_, ?_⟩
      · rw [wrap64 (by omega) (by omega)]; rfl
      · simp only [go_sem, z0, k9]
      · simp only [go_sem, za, k10]
    · refine W.exit ?_
      simp only [go_sem]
      refine W.rseq (k := 1) rfl fun K hK => ?_
      simp only [go_sem]
      refine hK _ _ _ ?_
      clear hK K
      refine W.ret ?_
      simp only [go_sem]

end Go.Av

