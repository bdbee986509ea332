/-
  Layer 12, package follow: Follow. Conditions: none.
-/
import Derived.Test.YtiiogleijmcccaaG1
namespace Go.Av
open Go.Proofs
set_option maxRecDepth 100000
set_option linter.unusedSimpArgs false
set_option linter.unusedVariables false

theorem getD_some {sets : List Nat} {n : Nat} (h : n < sets.length) : sets[n]? = some (sets.getD n 0) := by simp [h]

set_option maxHeartbeats 4000000 in
theorem f52 (g : Gr) (hg : g.Small) : FH pg Tq 52 [.agg (eGr g)] h0 0 fun r h _ => OwnU3 (followL g) r h := by
  have hg1 : g.prods.length < 2 ^ 60 := hg.1
  refine FH.of (N := 57) (rs := #[.tmp 2]) Try.func52 rfl rfl (of_decide_eq_true rfl) rfl (by decide) ?_
  refine W.rseq (k := 2) rfl fun K hK => ?_
  simp only [go_sem]
  refine hK _ _ _ ?_
  clear hK K
  refine W.scope (WS.code ?_)
  refine W.seq ?_
  refine W.rseq (k := 3) rfl fun K hK => ?_
  simp only [go_sem]
  refine VCall.frz 6 (f87 g hg) rfl ?_
  try simp only [go_sem]
  refine hK _ _ _ ?_
  clear hK K
  cases hr : right g
  · refine W.condT (by simp only [go_sem]) ?_
    refine W.rseq (k := 1) rfl fun K hK => ?_
    simp only [go_sem]
    refine hK _ _ _ ?_
    clear hK K
    refine W.ret ?_
    simp only [go_sem]
    exact .inl ⟨by simp [followL, hr], .inl rfl⟩
  refine W.condF (by simp only [go_sem]) ?_
  refine W.skip ?_
  simp only [go_sem]
  obtain ⟨⟨hn1, hn2⟩, _, ⟨hs1, hs2⟩, hp60, _⟩ := right_in hr
  have hbin := places_in hr
  obtain ⟨M, hM⟩ : ∃ M, M = g.nons.toNat := ⟨_, rfl⟩
  have hMn : g.nons = (M : Int) := by omega
  rw [← hM] at hbin
  obtain ⟨σ, hσ⟩ : ∃ σ : Nat, g.start = σ := ⟨g.start.toNat, by omega⟩
  have hσM : σ < M := by omega
  have hrep : List.replicate M [AV.int .u32 0] = (List.replicate M 0).map eU3 := by simp [eU3]
  have hgs : (List.replicate M 0)[σ]? = some 0 := by simp [hσM]
  refine W.rseq (k := 4) rfl fun K hK => ?_
  simp only [go_sem, hMn, hrep, show (0 : Int) ≤ (M : Int) by omega, show (M : Int) * 4 ≤ 140737488355328 by omega, show (0 : Nat) < 4 by omega, show (0 : Nat) < 1 by omega]
  refine hK _ _ _ ?_
  clear hK K
  refine W.rseq (k := 5) rfl fun K hK => ?_
  simp only [go_sem, hMn, hσ, hgs, show (σ : Int) < (M : Int) by omega]
  refine hK _ _ _ ?_
  clear hK K
  obtain ⟨L, hL⟩ : ∃ L, L = placesL g := ⟨_, rfl⟩
  have h96 := f96 g hg hr
  simp only [eGr, hMn, hσ] at h96
  rw [← hL] at h96 hbin
  have hLlen : L.length < 2 ^ 40 := by
    have : ∀ ps : List Pr, (∀ p ∈ ps, p.right.length ≤ 8) → (ps.flatMap fun p => behL g p.left p.right).length ≤ 8 * ps.length := by
      intro ps
      induction ps with
      | nil => intro _; simp
      | cons p ps ih =>
        intro h
        rw [List.flatMap_cons, List.length_append, List.length_cons]
        have h1 := ih fun q hq => h q (by simp [hq])
        have h2 := h p (by simp)
        have h3 := beh_len (g := g) (left := p.left) p.right
        omega
    have h4 := this g.prods fun p hp => ((right_in hr).2.2.2.2 p hp).2.1
    rw [hL, placesL]; omega
  refine W.rseq (k := 3) rfl fun K hK => ?_
  simp only [go_sem, hMn]
  refine VCall.frz 6 h96 rfl ?_
  try simp only [go_sem, hMn]
  refine hK _ _ _ ?_
  clear hK K
  obtain ⟨B, hB⟩ : ∃ B, B = 7 := ⟨_, rfl⟩
  have hI : (followI g).map eU3 = ((List.replicate M 0).map eU3).set σ [.int .u32 65536] := by
    rw [followI, ← hM, List.map_set, hσ]; rfl
  refine W.again rfl (fun k t h n => ∃ sets : List Nat, Lt32 sets ∧ sets.length = M ∧ missing sets < k ∧ fixB L k sets = fixB L (32 * M + 1) (followI g) ∧ B < n ∧ t 3 = .sl B 0 M 1 ∧ t 4 = .ro (L.map eBh) ∧ h B = some (.cells (sets.map eU3))) (32 * M + 1)
    ⟨followI g, followI_lt, by rw [followI_len, hM], ?_, rfl, by omega, by simp only [go_sem, hB], rfl, by simp only [go_sem, hB, hI]⟩ fun k t h n ⟨sets, i1, i2, i3, i4, i5, i6, i7, i8⟩ => ?_
  · have := missing_le (followI g)
    rw [followI_len, ← hM] at this; omega
  obtain ⟨k, rfl⟩ : ∃ k', k = k' + 1 := ⟨k - 1, by omega⟩
  rw [fixB] at i4
  refine W.seq ?_
  refine W.rseq (k := 3) rfl fun K hK => ?_
  simp only [go_sem, i7]
  refine hK _ _ _ ?_
  clear hK K
  refine W.block (W.while (fun m t h n => ∃ j : Nat, m = L.length - j ∧ j ≤ L.length ∧ passB sets L = passB sets (L.drop j) ∧ B < n ∧ t 3 = .sl B 0 M 1 ∧ t 4 = .ro (L.map eBh) ∧ t 20 = .ro (L.map eBh) ∧ t 21 = .int .i64 L.length ∧ t 22 = .int .i64 j ∧ h B = some (.cells (sets.map eU3))) L.length
    ⟨0, by simp, by simp, rfl, by omega, i6, i7, rfl, rfl, rfl, by simp only [go_sem, i8]⟩ fun m t h n ⟨j, j1, j2, j3, j4, j5, j6, j7, j8, j9, j10⟩ => ?_)
  refine W.rseq (k := 1) rfl fun K hK => ?_
  simp only [go_sem, j8, j9]
  refine hK _ _ _ ?_
  clear hK K
  refine W.seq ?_
  refine W.cond rfl (fun hc => ?_) fun hc => ?_
  · refine W.skip ?_
    simp only [go_sem]
    have hj : j < L.length := by simp at hc; omega
    obtain ⟨x, hx⟩ := get_some hj
    have hm : x ∈ L := List.mem_of_getElem? hx
    obtain ⟨⟨hl0, hl1⟩, ⟨hl2, hl3⟩, hset⟩ := hbin x hm
    have hdr : L.drop j = x :: L.drop (j + 1) := by
      rw [List.drop_eq_getElem_cons hj]
      congr 1
      exact (List.getElem_eq_iff hj).2 hx
    rw [hdr, passB] at j3
    obtain ⟨ν, hν⟩ : ∃ ν : Nat, x.non = ν := ⟨x.non.toNat, by omega⟩
    obtain ⟨μ, hμ⟩ : ∃ μ : Nat, x.left = μ := ⟨x.left.toNat, by omega⟩
    have hνt : x.non.toNat = ν := by omega
    have hμt : x.left.toNat = μ := by omega
    have hgν := getD_some (sets := sets) (n := ν) (by omega)
    have hgμ := getD_some (sets := sets) (n := μ) (by omega)
    have hlν := getD_lt i1 ν
    have hlμ := getD_lt i1 μ
    have hor1 := Nat.or_lt_two_pow hlν hset
    rw [hνt] at j3
    have zB : ∀ i, ¬ B = n + i := fun i => by omega
    refine W.seqk fun K hK => ?_
    have nx : ∀ (t' : Fr) (h' : Heap) (n' : Nat), moreF sets x = sets.getD ν 0 → B < n' → t' 3 = .sl B 0 M 1 → t' 4 = .ro (L.map eBh) → t' 20 = .ro (L.map eBh) → t' 21 = .int .i64 L.length → t' 22 = .int .i64 j → h' B = some (.cells (sets.map eU3)) → K t' h' n' := by
      intro t' h' n' he e1 e2 e3 e4 e5 e6 e7
      rw [if_pos he] at j3
      refine hK _ _ _ ?_
      refine W.region (k := 2) rfl ?_
      simp only [go_sem, e6]
      refine ⟨L.length - (j + 1), by omega, j + 1, rfl, by omega, j3, by omega, e2, e3, e4, e5, ?_, ?_⟩
      · rw [wrap64 (by omega) (by omega)]; rfl
      · simp only [go_sem, e7]
    clear hK
    refine W.block ?_
    refine W.rseq (k := 4) rfl fun K hK => ?_
    simp only [go_sem, j7, j9, hx]
    refine hK _ _ _ ?_
    clear hK K
    obtain ⟨bx, hbx⟩ : ∃ bx, bx = n + 3 := ⟨_, rfl⟩
    refine W.dseq (k := 9) rfl fun K hK => ?_
    simp only [go_sem, show B < n + 5 by omega, j5, j10, hν, hgν, zB, i2, or32 hlν hset, show (ν : Int) < (M : Int) by omega]
    refine hK _ _ _ _ (by kernel_rfl) ?_
    clear hK K
    refine W.seqk fun K hK => ?_
    have nx2 : ∀ (t' : Fr) (h' : Heap) (n' : Nat), bx < n' → t' 3 = .sl B 0 M 1 → t' 4 = .ro (L.map eBh) → t' 6 = .ptr bx 0 0 → t' 7 = .int .u32 (moreF sets x : Nat) → t' 20 = .ro (L.map eBh) → t' 21 = .int .i64 L.length → t' 22 = .int .i64 j → h' B = some (.cells (sets.map eU3)) → h' bx = some (.cells [eBh x]) → K t' h' n' := by
      intro t' h' n' e0 e1 e2 e3 e4 e5 e6 e7 e8 e9
      refine hK _ _ _ ?_
      refine W.rseq (k := 7) rfl fun K hK => ?_
      simp only [go_sem, e1, e3, e4, e8, e9, hν, hgν, show (ν : Int) < (M : Int) by omega]
      refine hK _ _ _ ?_
      clear hK K
      by_cases he : moreF sets x = sets.getD ν 0
      · refine W.condF (by simp only [go_sem, he]) ?_
        refine W.skip ?_
        simp only [go_sem]
        exact nx _ _ _ he (by omega) e1 e2 e5 e6 e7 (by simp only [go_sem, e8])
      · rw [if_neg he] at j3
        rw [j3] at i4
        obtain ⟨p1, p2, p3⟩ := passB_less i1 (by rw [i2]; exact hbin) j3
        have hne : decide (((moreF sets x : Nat) : Int) = ((sets.getD ν 0 : Nat) : Int)) = false := by
          rw [decide_eq_false_iff_not, Int.ofNat_inj]; exact he
        refine W.condT (by simp only [go_sem, hne]) ?_
        refine W.rseq (k := 6) rfl fun K hK => ?_
        simp only [go_sem, e1, e3, e4, e8, e9, hν, hgν, i2, show (ν : Int) < (M : Int) by omega]
        refine hK _ _ _ ?_
        clear hK K
        refine W.goto ?_
        simp only [go_sem]
        exact ⟨k, by omega, _, p2, by rw [p3]; exact i2, by omega, i4, by omega, e1, e2, by simp [upd, eU3]⟩
    clear hK nx
    refine W.rseq (k := 2) rfl fun K hK => ?_
    simp only [go_sem]
    refine hK _ _ _ ?_
    clear hK K
    cases hnull : x.null
    · refine W.condF (by simp only [go_sem, hnull]) ?_
      refine W.skip ?_
      simp only [go_sem]
      have hmore : moreF sets x = sets.getD ν 0 ||| x.set := by rw [moreF, hnull, if_neg (by simp), hνt]
      exact nx2 _ _ _ (by omega) j5 j6 (by rw [hbx]; rfl) (by rw [hmore]; rfl) j7 j8 j9 (by simp only [go_sem, zB, j10]) (by simp only [go_sem, hbx, hν, hnull])
    · refine W.condT (by simp only [go_sem, hnull]) ?_
      have hmore : moreF sets x = (sets.getD ν 0 ||| x.set) ||| sets.getD μ 0 := by rw [moreF, hnull, if_pos rfl, hνt, hμt]
      refine W.region (k := 8) rfl ?_
      simp only [go_sem, j5, j10, hμ, hgμ, zB, i2, or32 hor1 hlμ, show (μ : Int) < (M : Int) by omega]
      exact nx2 _ _ _ (by omega) j5 j6 (by rw [hbx]; rfl) (by rw [hmore]; rfl) j7 j8 j9 (by simp only [go_sem, zB, j10]) (by simp only [go_sem, hbx, hν, hμ, hnull])
  · refine W.exit ?_
    simp only [go_sem]
    have hj : j = L.length := by simp at hc; omega
    subst hj
    rw [List.drop_length, passB] at j3
    rw [j3] at i4
    refine W.rseq (k := 2) rfl fun K hK => ?_
    simp only [go_sem]
    refine hK _ _ _ ?_
    clear hK K
    refine W.ret ?_
    simp only [go_sem]
    have : followL g = sets := by rw [followL, hr, if_pos rfl, ← hL, ← hM, ← i4]
    rw [this]
    exact .inr ⟨B, by rw [i2]; exact j5, by simp only [go_sem, j10]⟩

end Go.Av

