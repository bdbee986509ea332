/-
  Layer 12's statement FollowClosed: the walk. Conditions: none.
-/
import Derived.Test.YtiiogleijmcccaaG4
namespace Go.Av
open Go.Proofs
set_option maxRecDepth 100000
set_option linter.unusedSimpArgs false
set_option linter.unusedVariables false

/-- What is in one number and not in the other. -/
def andN (a b : Nat) : Nat := (BitVec.ofNat 32 a &&& ~~~BitVec.ofNat 32 b).toNat

theorem andnot32 {a b : Nat} : bitsOf .andNot .u32 (a : Int) (b : Int) = some ((andN a b : Nat) : Int) := by
  show some (IntKind.wrap .u32 ((BitVec.ofInt 32 (a : Int) &&& ~~~BitVec.ofInt 32 (b : Int)).toNat : Int)) = _
  rw [ofIntN, ofIntN]
  exact congrArg some (wrapN (BitVec.isLt _))

theorem andN_bit {a b t : Nat} : (andN a b).testBit t = (decide (t < 32) && (a.testBit t && !b.testBit t)) := by
  unfold andN
  show (BitVec.ofNat 32 a &&& ~~~BitVec.ofNat 32 b).getLsbD t = _
  rw [BitVec.getLsbD_and, BitVec.getLsbD_not, BitVec.getLsbD_ofNat, BitVec.getLsbD_ofNat]
  cases decide (t < 32) <;> simp

theorem andN_zero {a b : Nat} (h : ∀ t, a.testBit t = true → b.testBit t = true) : andN a b = 0 := by
  refine Nat.eq_of_testBit_eq fun t => ?_
  rw [andN_bit, Nat.zero_testBit]
  cases ha : a.testBit t
  · simp
  · simp [h t ha]

theorem andN_div {a τ : Nat} (h : ∀ t, a.testBit t = true → t < τ ∨ t = 16) : andN a 65536 / 2 ^ τ = 0 := by
  refine Nat.div_eq_of_lt (Nat.lt_pow_two_of_testBit _ fun t ht => ?_)
  rw [andN_bit]
  cases ha : a.testBit t
  · simp
  · have := (h t ha).resolve_left (by omega)
    subst this
    have : Nat.testBit 65536 16 = true := by decide
    simp [this]

theorem andN_lt {a b : Nat} : andN a b < 2 ^ 32 := BitVec.isLt _

set_option maxHeartbeats 4000000 in
theorem f13 (g : Gr) (hg : g.Small) : FH pg Tq 13 [.agg (eGr g)] h0 0 fun r _ _ => r = .bool true := by
  have hg1 : g.prods.length < 2 ^ 60 := hg.1
  have h52 := OwnU3.pf (f52 g hg)
  refine FH.of (N := 106) (rs := #[.tmp 2]) Try.func13 rfl rfl (of_decide_eq_true rfl) rfl (by decide) ?_
  refine W.rseq (k := 2) rfl fun K hK => ?_
  simp only [go_sem]
  refine hK _ _ _ ?_
  clear hK K
  refine W.seq ?_
  refine W.rseq (k := 2) rfl fun K hK => ?_
  simp only [go_sem]
  refine VCall.frz 6 f51 rfl ?_
  try simp only [go_sem]
  refine hK _ _ _ ?_
  clear hK K
  refine W.condF (by simp only [go_sem]) ?_
  refine W.skip ?_
  simp only [go_sem]
  refine W.seq ?_
  refine W.rseq (k := 7) rfl fun K hK => ?_
  have out : ∀ t h n, t 20 = .bool true → K t h n := by
    intro t h n e
    refine hK _ _ _ ?_
    clear hK K
    refine W.condT (by simp only [go_sem, e]) ?_
    refine W.rseq (k := 1) rfl fun K hK => ?_
    simp only [go_sem]
    refine hK _ _ _ ?_
    clear hK K
    refine W.ret ?_
    simp only [go_sem]
  simp only [go_sem]
  refine VCall.frz 6 (f28 g hg) rfl ?_
  rcases Bool.eq_false_or_eq_true (large g) with hL | hL
  · simp only [go_sem, hL]
    exact out _ _ _ rfl
  simp only [hL]
  simp only [go_sem]
  refine VCall.frz 6 (f35 g hg) rfl ?_
  cases hr : right g
  · simp only [go_sem]
    exact out _ _ _ rfl
  simp only [go_sem]
  clear out
  refine hK _ _ _ ?_
  first | clear hK K | clear hK | skip
  refine W.condF (by simp only [go_sem]) ?_
  refine W.skip ?_
  simp only [go_sem]
  obtain ⟨⟨hn1, hn2⟩, ⟨ht1, ht2⟩, ⟨hs1, hs2⟩, hp60, h5⟩ := right_in hr
  obtain ⟨b1, b2, b3, b4, b5⟩ := follow_fin hr
  have hfin := right_fin hr
  obtain ⟨M, hM⟩ : ∃ M, M = g.nons.toNat := ⟨_, rfl⟩
  have hMn : g.nons = (M : Int) := by omega
  rw [← hM] at b1 hfin
  obtain ⟨σ, hσ⟩ : ∃ σ : Nat, g.start = σ := ⟨g.start.toNat, by omega⟩
  obtain ⟨τ, hτ⟩ : ∃ τ : Nat, g.terms = τ := ⟨g.terms.toNat, by omega⟩
  have hσM : σ < M := by omega
  have hsmall : ∀ n t : Nat, n < M → ((followL g).getD n 0).testBit t = true → t < τ ∨ t = 16 := by
    intro n t hn hb
    have := fol_small hr (b3 n t (by omega) hb)
    omega
  obtain ⟨fl, hfl⟩ : ∃ fl, fl = followL g := ⟨_, rfl⟩
  rw [← hfl] at b1 b2 b3 b4 b5 hsmall h52
  have hgσ := getD_some (sets := fl) (n := σ) (by omega)
  have hlσ := getD_lt b2 σ
  have hbσ : (fl.getD σ 0).testBit 16 = true := by rw [hσ, Int.toNat_natCast] at b5; exact b5
  have h16 : ((fl.getD σ 0 : Nat) : Int).fdiv (2 ^ min 16 32) = ((fl.getD σ 0 / 2 ^ 16 : Nat) : Int) := shr32 (t := 16) (by omega)
  have hand16 := and32 (x := fl.getD σ 0 / 2 ^ 16) (Nat.lt_of_le_of_lt (Nat.div_le_self _ _) hlσ)
  refine W.rseq (k := 3) rfl fun K hK => ?_
  simp only [go_sem]
  refine VCall.frz 6 h52 rfl ?_
  try simp only [go_sem]
  refine hK _ _ _ ?_
  clear hK K
  refine W.seq ?_
  refine W.rseq (k := 15) rfl fun K hK => ?_
  simp only [go_sem, b1, hMn, hσ, hgσ, h16, hand16, bit_zero, hbσ, show (σ : Int) < (M : Int) by omega]
  refine hK _ _ _ ?_
  clear hK K
  refine W.condF (by simp only [go_sem]) ?_
  refine W.skip ?_
  simp only [go_sem]
  refine W.seq ?_
  refine W.rseq (k := 4) rfl fun K hK => ?_
  simp only [go_sem]
  refine hK _ _ _ ?_
  clear hK K
  refine W.block (W.while (fun m t h n => ∃ i : Nat, m = g.prods.length - i ∧ i ≤ g.prods.length ∧ 0 < n ∧ (t 1 = .ptr 0 0 0 ∧ t 3 = .ro (fl.map eU3)) ∧ (t 39 = .ro (g.prods.map ePr) ∧ t 40 = .int .i64 g.prods.length) ∧ t 41 = .int .i64 i ∧ h 0 = some (.cells [eGr g])) g.prods.length
    ⟨0, by simp, by simp, by omega, ⟨rfl, rfl⟩, ⟨rfl, rfl⟩, rfl, by simp only [go_sem, hMn, hσ]⟩ fun m t h n ⟨i, i1, i2, i3, i4, i5, i6, i7⟩ => ?_)
  have i4' := i4
  have i5' := i5
  obtain ⟨a1, a3⟩ := i4'
  obtain ⟨a39, a40⟩ := i5'
  refine W.rseq (k := 1) rfl fun K hK => ?_
  simp only [go_sem, a40, i6]
  refine hK _ _ _ ?_
  clear hK K
  refine W.seq ?_
  refine W.cond rfl (fun hc => ?_) fun hc => ?_
  · refine W.skip ?_
    simp only [go_sem]
    have hi : i < g.prods.length := by simp at hc; omega
    obtain ⟨p, hp⟩ := get_some hi
    have hm : p ∈ g.prods := List.mem_of_getElem? hp
    obtain ⟨⟨hl0', hl1'⟩, hsy⟩ := hfin p hm
    have h8 := (h5 p hm).2.1
    refine W.seq (W.block ?_)
    have z0n : ∀ j, ¬ 0 = n + j := fun j => by omega
    refine W.rseq (k := 4) rfl fun K hK => ?_
    simp only [go_sem, a39, i6, hp]
    refine hK _ _ _ ?_
    clear hK K
    refine W.rseq (k := 4) rfl fun K hK => ?_
    simp only [go_sem]
    refine hK _ _ _ ?_
    clear hK K
    obtain ⟨bp, hbp⟩ : ∃ bp, bp = n + 3 := ⟨_, rfl⟩
    refine W.block (W.while (fun m t h n => ∃ q : Nat, m = p.right.length - q ∧ q ≤ p.right.length ∧ bp < n ∧ (t 1 = .ptr 0 0 0 ∧ t 3 = .ro (fl.map eU3)) ∧ (t 39 = .ro (g.prods.map ePr) ∧ t 40 = .int .i64 g.prods.length) ∧ t 41 = .int .i64 i ∧ (t 5 = .ptr bp 0 0 ∧ t 46 = .ro (p.right.map eSy) ∧ t 47 = .int .i64 p.right.length) ∧ t 48 = .int .i64 q ∧ h 0 = some (.cells [eGr g]) ∧ h bp = some (.cells [ePr p])) p.right.length
      ⟨0, by simp, by simp, by omega, i4, i5, i6, ⟨by rw [hbp]; rfl, rfl, rfl⟩, rfl, by simp only [go_sem, z0n, i7], by simp only [go_sem, hbp]⟩ fun m t h n ⟨q, k1, k2, k3, k4, k5, k6, k7, k8, k9, k10⟩ => ?_)
    clear z0n a1 a3 a39 a40
    have k4' := k4
    have k7' := k7
    obtain ⟨a1, a3⟩ := k4'
    obtain ⟨a5, a46, a47⟩ := k7'
    refine W.rseq (k := 1) rfl fun K hK => ?_
    simp only [go_sem, a47, k8]
    refine hK _ _ _ ?_
    clear hK K
    refine W.seq ?_
    refine W.cond rfl (fun hc2 => ?_) fun hc2 => ?_
    · refine W.skip ?_
      simp only [go_sem]
      have hq : q < p.right.length := by simp at hc2; omega
      obtain ⟨sy, hs⟩ := get_some hq
      have hsm : sy ∈ p.right := List.mem_of_getElem? hs
      have hsd : p.right.drop q = sy :: p.right.drop (q + 1) := by
        rw [List.drop_eq_getElem_cons hq]
        congr 1
        exact (List.getElem_eq_iff hq).2 hs
      have z0 : ∀ j, ¬ 0 = n + j := fun j => by omega
      have lp : ∀ j, (bp < n + j) = True := fun j => eq_true (by omega)
      have l0 : ∀ j, (0 < n + j) = True := fun j => eq_true (by omega)
      have zp : ∀ j, ¬ bp = n + j := fun j => by omega
      refine W.seqk fun K hK => ?_
      have nx : ∀ (t' : Fr) (h' : Heap) (n' : Nat), bp < n' → (t' 1 = .ptr 0 0 0 ∧ t' 3 = .ro (fl.map eU3)) → (t' 39 = .ro (g.prods.map ePr) ∧ t' 40 = .int .i64 g.prods.length) → t' 41 = .int .i64 i → (t' 5 = .ptr bp 0 0 ∧ t' 46 = .ro (p.right.map eSy) ∧ t' 47 = .int .i64 p.right.length) → t' 48 = .int .i64 q → h' 0 = some (.cells [eGr g]) → h' bp = some (.cells [ePr p]) → K t' h' n' := by
        intro t' h' n' e1 e2 e3 e4 e5 e6 e7 e8
        refine hK _ _ _ ?_
        refine W.region (k := 2) rfl ?_
        simp only [go_sem, e6]
        refine ⟨p.right.length - (q + 1), by omega, q + 1, rfl, by omega, by omega, e2, e3, e4, e5, ?_, ?_, ?_⟩
        · rw [wrap64 (by omega) (by omega)]; rfl
        · simp only [go_sem, e7]
        · simp only [go_sem, e8]
      clear hK
      refine W.block ?_
      refine W.rseq (k := 6) rfl fun K hK => ?_
      simp only [go_sem, a46, k8, hs]
      refine hK _ _ _ ?_
      clear hK K
      refine W.seq ?_
      refine W.rseq (k := 3) rfl fun K hK => ?_
      simp only [go_sem]
      refine hK _ _ _ ?_
      clear hK K
      cases hn : sy.non
      · refine W.condT (by simp only [go_sem, hn]) ?_
        refine W.exit ?_
        simp only [go_sem]
        exact nx _ _ _ (by omega) k4 k5 k6 k7 k8 (by simp only [go_sem, z0, k9]) (by simp only [go_sem, zp, k10])
      refine W.condF (by simp only [go_sem, hn]) ?_
      refine W.skip ?_
      simp only [go_sem]
      obtain ⟨rr, hrr⟩ : ∃ rr, rr = p.right.drop (q + 1) := ⟨_, rfl⟩
      have hsn : (⟨true, sy.n⟩ : Sy) = sy := by rw [← hn]
      have hbmem : (⟨sy.n, p.left, (ofL g rr).1, (ofL g rr).2⟩ : Bh) ∈ placesL g := by
        refine mem_places.2 ⟨p, hm, p.right.take q, sy.n, rr, ?_, rfl⟩
        rw [hrr, hsn, ← hsd, List.take_append_drop]
      have hcl := b4 _ hbmem
      obtain ⟨⟨c1, c2⟩, ⟨c3, c4⟩, c5⟩ := places_in hr _ hbmem
      rw [← hM] at c2 c4
      simp only at hcl c1 c2 c3 c4 c5
      obtain ⟨ν, hν⟩ : ∃ ν : Nat, sy.n = ν := ⟨sy.n.toNat, by omega⟩
      obtain ⟨μ, hμ⟩ : ∃ μ : Nat, p.left = μ := ⟨p.left.toNat, by omega⟩
      rw [hν, Int.toNat_natCast] at hcl
      have hgν := getD_some (sets := fl) (n := ν) (by omega)
      have hgμ := getD_some (sets := fl) (n := μ) (by omega)
      have hz1 : andN (ofL g rr).1 (fl.getD ν 0) = 0 := andN_zero fun t ht => hcl t (by simp [bB, ht])
      have hz2 : (ofL g rr).2 = true → andN (fl.getD μ 0) (fl.getD ν 0) = 0 := fun hal => andN_zero fun t ht => hcl t (by
        have : bts t fl μ = true := ht
        simp [bB, hal, hμ, this])
      have h43 := f43 g hg rr (by rw [hrr, List.length_drop]; omega)
      have hw2 : IntKind.wrap .i64 ((q : Int) + 1) = ((q + 1 : Nat) : Int) := wrap64 (by omega) (by omega)
      have hcut : ((p.right.map eSy).drop (q + 1)).take (p.right.length - (q + 1)) = rr.map eSy := by rw [cut_map, hrr]
      refine W.dseq (k := 12) rfl fun K hK => ?_
      simp only [go_sem, lp, l0, a1, a5, k8, k9, k10, z0, zp, hw2, hcut, len_map (e := eSy) (sz := 2) (fun _ => rfl), show q + 1 ≤ p.right.length by omega]
      refine VCall.frzq 6 rfl h43 ?_
      simp only [go_sem]
      refine hK _ _ _ _ (by kernel_rfl) ?_
      clear hK K
      refine W.dseq (k := 25) rfl fun K hK => ?_
      have nx2 : ∀ (t' : Fr) (h' : Heap) (n' : Nat), t' 90 = .bool false → bp < n' → (t' 1 = .ptr 0 0 0 ∧ t' 3 = .ro (fl.map eU3)) → (t' 39 = .ro (g.prods.map ePr) ∧ t' 40 = .int .i64 g.prods.length) → t' 41 = .int .i64 i → (t' 5 = .ptr bp 0 0 ∧ t' 46 = .ro (p.right.map eSy) ∧ t' 47 = .int .i64 p.right.length) → t' 48 = .int .i64 q → h' 0 = some (.cells [eGr g]) → h' bp = some (.cells [ePr p]) → (∀ cs, K cs t' h' n') → True := fun _ _ _ _ _ _ _ _ _ _ _ _ _ => trivial
      clear nx2
      cases hal : (ofL g rr).2
      · simp only [go_sem, a1, a3, a5, hal, k9, k10, z0, zp, hν, hgν, b1, hz1, andnot32, Int.natCast_zero, show (ν : Int) < (M : Int) by omega, lp, l0]
        refine hK _ _ _ _ (by kernel_rfl) ?_
        clear hK K
        refine W.condF (by simp only [go_sem]) ?_
        refine W.skip ?_
        simp only [go_sem]
        exact nx _ _ _ (by omega) k4 k5 k6 k7 k8 (by simp only [go_sem, z0, k9]) (by simp only [go_sem, zp, k10])
      · simp only [go_sem, a1, a3, a5, hal, k9, k10, z0, zp, hν, hμ, hgν, hgμ, b1, hz1, hz2 hal, andnot32, Int.natCast_zero, show (ν : Int) < (M : Int) by omega, show (μ : Int) < (M : Int) by omega, lp, l0]
        refine hK _ _ _ _ (by kernel_rfl) ?_
        clear hK K
        refine W.condF (by simp only [go_sem]) ?_
        refine W.skip ?_
        simp only [go_sem]
        exact nx _ _ _ (by omega) k4 k5 k6 k7 k8 (by simp only [go_sem, z0, k9]) (by simp only [go_sem, zp, k10])
    · refine W.exit ?_
      simp only [go_sem]
      refine W.region (k := 2) rfl ?_
      simp only [go_sem, k6]
      refine ⟨g.prods.length - (i + 1), by omega, i + 1, rfl, by omega, by omega, k4, k5, ?_, ?_⟩
      · rw [wrap64 (by omega) (by omega)]; rfl
      · simp only [go_sem, k9]
  · refine W.exit ?_
    simp only [go_sem]
    refine W.seq ?_
    refine W.rseq (k := 3) rfl fun K hK => ?_
    simp only [go_sem, a3, b1]
    refine hK _ _ _ ?_
    clear hK K
    refine W.block (W.while (fun m t h n => ∃ k : Nat, m = M - k ∧ k ≤ M ∧ 0 < n ∧ t 1 = .ptr 0 0 0 ∧ t 93 = .ro (fl.map eU3) ∧ t 94 = .int .i64 M ∧ t 95 = .int .i64 k ∧ h 0 = some (.cells [eGr g])) M
      ⟨0, by simp, by simp, by omega, a1, rfl, rfl, rfl, by simp only [go_sem, i7]⟩ fun m t h n ⟨k, k1, k2, k3, k4, k5, k6, k7, k8⟩ => ?_)
    refine W.rseq (k := 1) rfl fun K hK => ?_
    simp only [go_sem, k6, k7]
    refine hK _ _ _ ?_
    clear hK K
    refine W.seq ?_
    refine W.cond rfl (fun hc2 => ?_) fun hc2 => ?_
    · refine W.skip ?_
      simp only [go_sem]
      have hk : k < M := by simp at hc2; omega
      have hgk := getD_some (sets := fl) (n := k) (by omega)
      have hdv := andN_div (a := fl.getD k 0) (τ := τ) fun t ht => hsmall k t hk ht
      have hsh := shr32 (x := andN (fl.getD k 0) 65536) (t := τ) (by omega)
      rw [hdv] at hsh
      have han : bitsOf .andNot .u32 ((fl.getD k 0 : Nat) : Int) 65536 = some ((andN (fl.getD k 0) 65536 : Nat) : Int) := andnot32
      refine W.seq (W.block ?_)
      refine W.rseq (k := 3) rfl fun K hK => ?_
      simp only [go_sem, k5, k7, hgk]
      refine hK _ _ _ ?_
      clear hK K
      refine W.rseq (k := 6) rfl fun K hK => ?_
      simp only [go_sem, k4, k8, hτ, han, hsh, Int.natCast_zero, show 0 < n + 6 by omega]
      refine hK _ _ _ ?_
      clear hK K
      refine W.condF (by simp only [go_sem]) ?_
      refine W.skip ?_
      simp only [go_sem]
      refine W.region (k := 2) rfl ?_
      simp only [go_sem, k7]
      refine ⟨M - (k + 1), by omega, k + 1, rfl, by omega, by omega, k4, k5, k6, ?_, ?_⟩
      · rw [wrap64 (by omega) (by omega)]; rfl
      · simp only [go_sem, k8]
    · refine W.exit ?_
      simp only [go_sem]
      refine W.rseq (k := 1) rfl fun K hK => ?_
      simp only [go_sem]
      refine hK _ _ _ ?_
      clear hK K
      refine W.ret ?_
      simp only [go_sem]

end Go.Av

