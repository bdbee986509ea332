/-
  Layer 12, the document's answer: Follow, round by round. Conditions: none.
-/
import Derived.Test.YtiiogleijmcccaaG2
import Derived.Test.YtiiogleijmcccaaC11d
namespace Go.Av
open Go.Proofs
set_option maxRecDepth 100000
set_option linter.unusedSimpArgs false
set_option linter.unusedVariables false

set_option maxHeartbeats 8000000 in
theorem f53 (g : Gr) (hg : g.Small) : FH pg Tq 53 [.agg (eGr g)] h0 0 fun r h _ => OwnSt (followR g) r h := by
  have hg1 : g.prods.length < 2 ^ 60 := hg.1
  refine FH.of (N := 102) (rs := #[.tmp 2]) Try.func53 rfl rfl (of_decide_eq_true rfl) rfl (by decide) ?_
  refine W.rseq (k := 2) rfl fun K hK => ?_
  simp only [go_sem]
  refine hK _ _ _ ?_
  clear hK K
  refine W.seq ?_
  refine W.rseq (k := 3) rfl fun K hK => ?_
  simp only [go_sem]
  refine VCall.frz 6 (f35 g hg) rfl ?_
  try simp only [go_sem]
  refine hK _ _ _ ?_
  clear hK K
  cases hr : right g
  · refine W.condT (by simp only [go_sem]) ?_
    refine W.rseq (k := 1) rfl fun K hK => ?_
    simp only [go_sem]
    refine hK _ _ _ ?_
    clear hK K
    refine W.ret ?_
    simp only [go_sem]
    exact .inl ⟨by simp [followR, hr], .inl rfl⟩
  refine W.condF (by simp only [go_sem]) ?_
  refine W.skip ?_
  simp only [go_sem]
  obtain ⟨⟨hn1, hn2⟩, _, ⟨hs1, hs2⟩, hp60, h5⟩ := right_in hr
  have hbin := places_in hr
  have hfin := right_fin hr
  obtain ⟨M, hM⟩ : ∃ M, M = g.nons.toNat := ⟨_, rfl⟩
  have hMn : g.nons = (M : Int) := by omega
  rw [← hM] at hbin hfin
  obtain ⟨σ, hσ⟩ : ∃ σ : Nat, g.start = σ := ⟨g.start.toNat, by omega⟩
  have hσM : σ < M := by omega
  obtain ⟨null, hnull⟩ : ∃ null, null = ranksL g false := ⟨_, rfl⟩
  have hnl : null.length = M := by have := (ranks_fin (terms := false) hr).1; rw [hnull]; omega
  have h31 := OwnFc.pf (f31 g hg false)
  rw [← ranks_same, ← hnull] at h31
  have h47 := OwnSt.pf (f47 g hg)
  rw [firstR_eq] at h47
  obtain ⟨fst, hfst⟩ : ∃ fst, fst = firstL g := ⟨_, rfl⟩
  rw [← hfst] at h47
  have hfl : fst.length = M := by rw [hfst, hM]; exact (first_fin hr).1
  obtain ⟨B, hB⟩ : ∃ B, B = 13 := ⟨_, rfl⟩
  have z0 : ¬ 0 = B := by omega
  refine W.rseq (k := 3) rfl fun K hK => ?_
  simp only [go_sem]
  refine VCall.frz 6 h31 rfl ?_
  try simp only [go_sem]
  refine hK _ _ _ ?_
  clear hK K
  refine W.rseq (k := 3) rfl fun K hK => ?_
  simp only [go_sem]
  refine VCall.frz 6 h47 rfl ?_
  try simp only [go_sem]
  refine hK _ _ _ ?_
  clear hK K
  have hz : ([AV.bool false, AV.bool false, AV.bool false, AV.bool false, AV.bool false, AV.bool false, AV.bool false, AV.bool false, AV.bool false, AV.bool false, AV.bool false, AV.bool false, AV.bool false, AV.bool false, AV.bool false, AV.bool false, AV.bool false, AV.bool false, AV.bool false, AV.bool false, AV.bool false, AV.bool false, AV.bool false, AV.bool false, AV.bool false, AV.bool false, AV.bool false, AV.bool false, AV.bool false, AV.bool false, AV.bool false, AV.bool false] : List AV) = eSt 0 := rfl
  have hl0 : (eSt 0).length = 32 := cB_len
  have hov0 : (eSt 0).take 16 ++ (.bool true :: (eSt 0).drop 17) = eSt (2 ^ 16) := (eSt_one (a := 0) (ν := 16) (by omega)).trans (by rw [Nat.zero_or])
  have hrg : (List.replicate M (eSt 0))[σ]? = some (eSt 0) := by simp [hσM]
  refine W.rseq (k := 4) rfl fun K hK => ?_
  simp only [go_sem, hMn, show (0 : Int) ≤ (M : Int) by omega, show (M : Int) * 32 ≤ 140737488355328 by omega, show (0 : Nat) < 32 by omega]
  refine hK _ _ _ ?_
  clear hK K
  simp only [hz]
  refine W.rseq (k := 6) rfl fun K hK => ?_
  simp only [go_sem, hMn, hσ, hrg, hl0, hov0, show (σ : Int) < (M : Int) by omega, show (0 : Int) ≤ 16 by omega, show (16 : Int) < 32 by omega, show (17 : Nat) ≤ 32 by omega]
  refine hK _ _ _ ?_
  clear hK K
  refine W.seq ?_
  refine W.rseq (k := 1) rfl fun K hK => ?_
  simp only [go_sem]
  refine hK _ _ _ ?_
  clear hK K
  have hI : (List.replicate M (eSt 0)).set σ (eSt (2 ^ 16)) = (followI g).map eSt := by
    rw [followI, ← hM, List.map_set, hσ, List.map_replicate]; rfl
  obtain ⟨L, hL⟩ : ∃ L, L = placesL g := ⟨_, rfl⟩
  rw [← hL] at hbin
  have hw1 : IntKind.wrap .i64 ((M : Int) + 1) = (M : Int) + 1 := wrap64 (by omega) (by omega)
  refine W.block (W.while (fun m t h n => ∃ (k : Nat) (s : List Nat), m = M + 1 - k ∧ k ≤ M + 1 ∧ s.length = M ∧ Lt32 s ∧ roundsB L (M + 1 - k) s = roundsB L (M + 1) (followI g) ∧ B < n ∧ (t 1 = .ptr 0 0 0 ∧ t 3 = .ro (null.map eFc) ∧ t 4 = .ro (fst.map eSt) ∧ t 5 = .sl B 0 M 32) ∧ t 6 = .int .i64 k ∧ h 0 = some (.cells [eGr g]) ∧ h B = some (.cells (s.map eSt))) (M + 1)
    ⟨0, followI g, by simp, by simp, by rw [followI_len, hM], followI_lt, rfl, by omega, ⟨rfl, rfl, rfl, by rw [hB]; rfl⟩, rfl, by simp only [go_sem, hMn, hσ], by simp only [go_sem, hB, hI]⟩ fun m t h n ⟨k, s, i1, i2, i3, i4, i5, i6, i7, i8, i9, i10⟩ => ?_)
  have i7' := i7
  obtain ⟨a1, a3, a4, a5⟩ := i7'
  refine W.seq ?_
  refine W.rseq (k := 5) rfl fun K hK => ?_
  simp only [go_sem, a1, i8, i9, hMn, hw1]
  refine hK _ _ _ ?_
  clear hK K
  refine W.cond rfl (fun hc => ?_) fun hc => ?_
  · refine W.skip ?_
    simp only [go_sem]
    have hk : k < M + 1 := by simp at hc; omega
    obtain ⟨q, hq⟩ : ∃ q, M + 1 - k = q + 1 := ⟨M - k, by omega⟩
    rw [hq, roundsB] at i5
    refine W.seq (W.block ?_)
    refine W.rseq (k := 1) rfl fun K hK => ?_
    simp only [go_sem]
    refine hK _ _ _ ?_
    clear hK K
    clear a1 a3 a4 a5
    refine W.block (W.while (fun m t h n => ∃ (i : Nat) (c : List Nat), m = g.prods.length - i ∧ i ≤ g.prods.length ∧ c.length = M ∧ Lt32 c ∧ ((g.prods.drop i).flatMap fun p => behL g p.left p.right).foldl addB c = roundB L s ∧ B < n ∧ (t 1 = .ptr 0 0 0 ∧ t 3 = .ro (null.map eFc) ∧ t 4 = .ro (fst.map eSt) ∧ t 5 = .sl B 0 M 32) ∧ t 6 = .int .i64 k ∧ t 7 = .int .i64 i ∧ h 0 = some (.cells [eGr g]) ∧ h B = some (.cells (c.map eSt))) g.prods.length
      ⟨0, s, by simp, by simp, i3, i4, by rw [List.drop_zero, hL]; rfl, by omega, i7, i8, rfl, by simp only [go_sem, i9], by simp only [go_sem, i10]⟩ fun m t h n ⟨i, c, j1, j2, j3, j4, j5, j6, j7, j8, j9, j10, j11⟩ => ?_)
    have j7' := j7
    obtain ⟨a1, a3, a4, a5⟩ := j7'
    refine W.seq ?_
    refine W.rseq (k := 5) rfl fun K hK => ?_
    simp only [go_sem, a1, j9, j10]
    refine hK _ _ _ ?_
    clear hK K
    refine W.cond rfl (fun hc2 => ?_) fun hc2 => ?_
    · refine W.skip ?_
      simp only [go_sem]
      have hi : i < g.prods.length := by simp at hc2; omega
      obtain ⟨p, hp⟩ := get_some hi
      have hm : p ∈ g.prods := List.mem_of_getElem? hp
      obtain ⟨⟨hl0', hl1'⟩, hsy⟩ := hfin p hm
      have h8 := (h5 p hm).2.1
      have hdr : g.prods.drop i = p :: g.prods.drop (i + 1) := by
        rw [List.drop_eq_getElem_cons hi]
        congr 1
        exact (List.getElem_eq_iff hi).2 hp
      rw [hdr, List.flatMap_cons, List.foldl_append] at j5
      obtain ⟨R, hR⟩ : ∃ R, R = (g.prods.drop (i + 1)).flatMap fun p => behL g p.left p.right := ⟨_, rfl⟩
      rw [← hR] at j5
      refine W.seq (W.block ?_)
      have z0n : ∀ j, ¬ 0 = n + j := fun j => by omega
      have zBn : ∀ j, ¬ B = n + j := fun j => by omega
      refine W.rseq (k := 7) rfl fun K hK => ?_
      simp only [go_sem, a1, j9, j10, hp]
      refine hK _ _ _ ?_
      clear hK K
      refine W.rseq (k := 1) rfl fun K hK => ?_
      simp only [go_sem]
      refine hK _ _ _ ?_
      clear hK K
      obtain ⟨bp, hbp⟩ : ∃ bp, bp = n + 10 := ⟨_, rfl⟩
      clear a1 a3 a4 a5
      refine W.block (W.while (fun m t h n => ∃ (q : Nat) (d : List Nat), m = p.right.length - q ∧ q ≤ p.right.length ∧ d.length = M ∧ Lt32 d ∧ R.foldl addB ((behL g p.left (p.right.drop q)).foldl addB d) = roundB L s ∧ bp < n ∧ (t 1 = .ptr 0 0 0 ∧ t 3 = .ro (null.map eFc) ∧ t 4 = .ro (fst.map eSt) ∧ t 5 = .sl B 0 M 32) ∧ (t 6 = .int .i64 k ∧ t 7 = .int .i64 i ∧ t 8 = .ptr bp 0 0) ∧ t 9 = .int .i64 q ∧ h 0 = some (.cells [eGr g]) ∧ h bp = some (.cells [ePr p]) ∧ h B = some (.cells (d.map eSt))) p.right.length
        ⟨0, c, by simp, by simp, j3, j4, j5, by omega, j7, ⟨j8, j9, by rw [hbp]; rfl⟩, rfl, by simp only [go_sem, z0n, j10], by simp only [go_sem, hbp], by simp only [go_sem, zBn, j11]⟩ fun m t h n ⟨q, d, k1, k2, k3, k4, k5, k6, k7, k8, k9, k10, k11, k12⟩ => ?_)
      clear z0n zBn
      have k7' := k7
      obtain ⟨a1, a3, a4, a5⟩ := k7'
      have k8' := k8
      obtain ⟨a6, a7, a8⟩ := k8'
      refine W.seq ?_
      refine W.rseq (k := 5) rfl fun K hK => ?_
      simp only [go_sem, a8, k9, k11]
      refine hK _ _ _ ?_
      clear hK K
      refine W.cond rfl (fun hc3 => ?_) fun hc3 => ?_
      · refine W.skip ?_
        simp only [go_sem]
        have hqk : q < p.right.length := by simp at hc3; omega
        obtain ⟨sy, hs⟩ := get_some hqk
        have hsm : sy ∈ p.right := List.mem_of_getElem? hs
        have hsd : p.right.drop q = sy :: p.right.drop (q + 1) := by
          rw [List.drop_eq_getElem_cons hqk]
          congr 1
          exact (List.getElem_eq_iff hqk).2 hs
        rw [hsd, behL] at k5
        refine W.seqk fun K hK => ?_
        have nx : ∀ (d' : List Nat) (t' : Fr) (h' : Heap) (n' : Nat), d'.length = M → Lt32 d' → R.foldl addB ((behL g p.left (p.right.drop (q + 1))).foldl addB d') = roundB L s → bp < n' → (t' 1 = .ptr 0 0 0 ∧ t' 3 = .ro (null.map eFc) ∧ t' 4 = .ro (fst.map eSt) ∧ t' 5 = .sl B 0 M 32) → (t' 6 = .int .i64 k ∧ t' 7 = .int .i64 i ∧ t' 8 = .ptr bp 0 0) → t' 9 = .int .i64 q → h' 0 = some (.cells [eGr g]) → h' bp = some (.cells [ePr p]) → h' B = some (.cells (d'.map eSt)) → K t' h' n' := by
          intro d' t' h' n' e1 e2 e3 e4 e5 e6 e7 e8 e9 e10
          refine hK _ _ _ ?_
          refine W.region (k := 3) rfl ?_
          simp only [go_sem, e7]
          refine ⟨p.right.length - (q + 1), by omega, q + 1, d', rfl, by omega, e1, e2, e3, by omega, e5, e6, ?_, ?_, ?_, ?_⟩
          · rw [wrap64 (by omega) (by omega)]; rfl
          · simp only [go_sem, e8]
          · simp only [go_sem, e9]
          · simp only [go_sem, e10]
        clear hK
        refine W.block ?_
        refine W.seq ?_
        refine W.rseq (k := 7) rfl fun K hK => ?_
        simp only [go_sem, a8, k9, k11, hs]
        refine hK _ _ _ ?_
        clear hK K
        cases hn : sy.non
        · rw [hn] at k5
          simp only [Bool.false_eq_true, if_false] at k5
          refine W.condT (by simp only [go_sem, hn]) ?_
          refine W.exit ?_
          simp only [go_sem]
          exact nx d _ _ _ k3 k4 k5 (by omega) k7 k8 k9 (by simp only [go_sem, k10]) (by simp only [go_sem, k11]) (by simp only [go_sem, k12])
        rw [hn] at k5
        simp only [if_true, List.foldl_cons] at k5
        refine W.condF (by simp only [go_sem, hn]) ?_
        refine W.skip ?_
        simp only [go_sem]
        obtain ⟨rr, hrr⟩ : ∃ rr, rr = p.right.drop (q + 1) := ⟨_, rfl⟩
        have hpre : p.right = (p.right.take (q + 1)) ++ rr := by rw [hrr, List.take_append_drop]
        have hof : ofL g rr = rowW fst null 0 rr := by rw [hfst, hnull]; exact ofL_suffix hr hm hpre
        have h49 := f49 rr fst null (by rw [hrr, List.length_drop]; omega) (by omega) (fun y hy => by rw [hfl]; exact hsy y (by rw [hpre]; simp [hy]))
        rw [← hof] at h49
        obtain ⟨bh, hbh⟩ : ∃ bh : Bh, bh = ⟨sy.n, p.left, (ofL g rr).1, (ofL g rr).2⟩ := ⟨_, rfl⟩
        have hbmem : bh ∈ L := by
          rw [hL, hbh]
          refine mem_places.2 ⟨p, hm, p.right.take q, sy.n, rr, ?_, rfl⟩
          rw [hrr, show (⟨true, sy.n⟩ : Sy) = sy by rw [← hn], ← hsd, List.take_append_drop]
        obtain ⟨⟨b1, b2⟩, ⟨b3, b4⟩, b5⟩ := hbin bh hbmem
        rw [← hrr] at k5 nx
        rw [← hbh] at k5
        obtain ⟨x, hx⟩ : ∃ x, x = (ofL g rr).1 := ⟨_, rfl⟩
        obtain ⟨al, hal⟩ : ∃ al, al = (ofL g rr).2 := ⟨_, rfl⟩
        have hbx : bh.set = x := by rw [hbh, hx]
        have hbal : bh.null = al := by rw [hbh, hal]
        have hbn : bh.non = sy.n := by rw [hbh]
        have hbl : bh.left = p.left := by rw [hbh]
        rw [hbn] at b1 b2
        rw [hbl] at b3 b4
        obtain ⟨ν, hν⟩ : ∃ ν : Nat, sy.n = ν := ⟨sy.n.toNat, by omega⟩
        obtain ⟨μ, hμ⟩ : ∃ μ : Nat, p.left = μ := ⟨p.left.toNat, by omega⟩
        have hνM : ν < M := by omega
        have hμM : μ < M := by omega
        have hbν : bh.non.toNat = ν := by rw [hbn]; omega
        have hbμ : bh.left.toNat = μ := by rw [hbl]; omega
        rw [← hx, ← hal] at h49
        have hxl : (eSt x).length = 32 := cB_len
        have hxa : (eSt x).all scal = true := cB_scal
        have hw2 : IntKind.wrap .i64 ((q : Int) + 1) = ((q + 1 : Nat) : Int) := wrap64 (by omega) (by omega)
        have hcut : ((p.right.map eSy).drop (q + 1)).take (p.right.length - (q + 1)) = rr.map eSy := by rw [cut_map, hrr]
        refine W.rseq (k := 14) rfl fun K hK => ?_
        simp only [go_sem, a3, a4, a8, k9, k11, hw2, hcut, len_map (e := eSy) (sz := 2) (fun _ => rfl), show q + 1 ≤ p.right.length by omega]
        refine VCall.frz 6 h49 rfl ?_
        simp only [go_sem, hxl, hxa, eSt_take, eSt_drop, List.append_nil, Nat.le_refl, and_self, if_true]
        refine hK _ _ _ ?_
        first | clear hK K | clear hK | skip
        obtain ⟨D, hD⟩ : ∃ D, D = n + 23 := ⟨_, rfl⟩
        obtain ⟨o, ho⟩ : ∃ o, o = d.getD ν 0 := ⟨_, rfl⟩
        have hgs : d[ν]? = some o := by rw [ho]; simp [show ν < d.length by omega]
        obtain ⟨mo, hmo⟩ : ∃ mo, mo = moreF d bh := ⟨_, rfl⟩
        have hmbit : ∀ t, mo.testBit t = (o.testBit t || (x.testBit t || (al && (d.getD μ 0).testBit t))) := by
          intro t
          rw [hmo, moreF_bit, bB, hbν, hbμ, hbx, hbal, ho]; rfl
        have hadd : addB d bh = d.set ν mo := by rw [addB, hbν, ← hmo]
        rw [hadd] at k5
        have hset0 : (d.map eSt).set ν (cB fun t => if t < 0 then mo.testBit t else o.testBit t) = d.map eSt := by
          refine List.ext_getElem? fun y => ?_
          rw [List.getElem?_set]
          split
          · rename_i e; subst e
            rw [if_pos (by rw [List.length_map]; omega), List.getElem?_map, hgs]
            simp [eSt]
          · rfl
        rw [← hD]
        have zB : ¬ B = D := by omega
        have zB' : ¬ D = B := by omega
        have zD : ¬ 0 = D := by omega
        have zp : ¬ bp = D := by omega
        refine W.rseq (k := 1) rfl fun K hK => ?_
        simp only [go_sem]
        refine hK _ _ _ ?_
        clear hK K
        clear a1 a3 a4 a5 a6 a7 a8
        refine W.block (W.while (fun m t h n => ∃ j : Nat, m = 32 - j ∧ j ≤ 32 ∧ D < n ∧ (t 1 = .ptr 0 0 0 ∧ t 3 = .ro (null.map eFc) ∧ t 4 = .ro (fst.map eSt) ∧ t 5 = .sl B 0 M 32) ∧ (t 6 = .int .i64 k ∧ t 7 = .int .i64 i ∧ t 8 = .ptr bp 0 0) ∧ t 9 = .int .i64 q ∧ t 10 = .ptr D 0 0 ∧ t 11 = .bool al ∧ t 12 = .int .i64 j ∧ h 0 = some (.cells [eGr g]) ∧ h bp = some (.cells [ePr p]) ∧ h D = some (.cells [eSt x]) ∧ h B = some (.cells ((d.map eSt).set ν (cB fun t => if t < j then mo.testBit t else o.testBit t)))) 32
          ⟨0, by simp, by simp, by omega, k7, k8, k9, rfl, rfl, rfl, ?_, ?_, ?_, ?_⟩ fun m t h n ⟨j, l1, l2, l3, l4, l5, l6, l7, l8, l9, l10, l11, l12, l13⟩ => ?_)
        · simp only [go_sem, zD, if_false, k10]
        · simp only [go_sem, zp, if_false, k11]
        · simp only [go_sem]
        · rw [hset0]; simp only [go_sem, zB, if_false, k12]
        have l4' := l4
        obtain ⟨a1, a3, a4, a5⟩ := l4'
        have l5' := l5
        obtain ⟨a6, a7, a8⟩ := l5'
        refine W.seq ?_
        refine W.rseq (k := 2) rfl fun K hK => ?_
        simp only [go_sem, l9]
        refine hK _ _ _ ?_
        clear hK K
        refine W.cond rfl (fun hc4 => ?_) fun hc4 => ?_
        · refine W.skip ?_
          simp only [go_sem]
          have hj : j < 32 := by simp at hc4; omega
          obtain ⟨f, hf⟩ : ∃ f : Nat → Bool, f = fun t => if t < j then mo.testBit t else o.testBit t := ⟨_, rfl⟩
          rw [← hf] at l13
          obtain ⟨bit, hbit⟩ : ∃ bit, bit = (x.testBit j || (al && (d.getD μ 0).testBit j)) := ⟨_, rfl⟩
          have hfn : (fun y => if y = j then (f j || bit) else f y) = fun t => if t < j + 1 then mo.testBit t else o.testBit t := by
            funext y
            rw [hf]
            by_cases h1 : y = j
            · subst h1; simp [hmbit, hbit]
            · by_cases h2 : y < j
              · simp [h1, h2, show y < j + 1 by omega]
              · simp [h1, h2, show ¬ y < j + 1 by omega]
          have hgetx : ((eSt x).drop j).take 1 = [.bool (x.testBit j)] := cB_get hj
          have hlf : (cB f).length = 32 := cB_len
          have hov := cB_over (f := f) (b := f j || bit) hj
          rw [hfn] at hov
          have hGl : ((d.map eSt).set ν (cB f)).length = M := by rw [List.length_set, List.length_map, k3]
          have hGv : ((d.map eSt).set ν (cB f))[ν]? = some (cB f) := by rw [List.getElem?_set_self (by rw [List.length_map]; omega)]
          obtain ⟨row, hGμ, hrl, hrg⟩ : ∃ row, ((d.map eSt).set ν (cB f))[μ]? = some row ∧ row.length = 32 ∧ (row.drop j).take 1 = [.bool ((d.getD μ 0).testBit j)] := by
            by_cases e : ν = μ
            · rw [← e]
              refine ⟨_, hGv, hlf, ?_⟩
              rw [cB_get hj, hf, ← ho]
              simp
            · refine ⟨eSt (d.getD μ 0), ?_, cB_len, cB_get hj⟩
              rw [List.getElem?_set, if_neg e, List.getElem?_map, getD_some (show μ < d.length by omega)]; rfl
          refine W.seqk fun K hK => ?_
          have nx3 : ∀ (t' : Fr) (h' : Heap) (n' : Nat), D < n' → (t' 1 = .ptr 0 0 0 ∧ t' 3 = .ro (null.map eFc) ∧ t' 4 = .ro (fst.map eSt) ∧ t' 5 = .sl B 0 M 32) → (t' 6 = .int .i64 k ∧ t' 7 = .int .i64 i ∧ t' 8 = .ptr bp 0 0) → t' 9 = .int .i64 q → t' 10 = .ptr D 0 0 → t' 11 = .bool al → t' 12 = .int .i64 j → h' 0 = some (.cells [eGr g]) → h' bp = some (.cells [ePr p]) → h' D = some (.cells [eSt x]) → h' B = some (.cells ((d.map eSt).set ν (cB fun t => if t < j + 1 then mo.testBit t else o.testBit t))) → K t' h' n' := by
            intro t' h' n' e1 e2 e3 e4 e5 e6 e7 e8 e9 e10 e11
            refine hK _ _ _ ?_
            refine W.region (k := 3) rfl ?_
            simp only [go_sem, e7]
            refine ⟨32 - (j + 1), by omega, j + 1, rfl, by omega, by omega, e2, e3, e4, e5, e6, ?_, ?_, ?_, ?_, ?_⟩
            · rw [wrap64 (by omega) (by omega)]; rfl
            · simp only [go_sem, e8]
            · simp only [go_sem, e9]
            · simp only [go_sem, e10]
            · simp only [go_sem, e11]
          clear hK
          refine W.block ?_
          have zB3 : ∀ j, ¬ B = n + j := fun j => by omega
          refine W.rseq (k := 15) rfl fun K hK => ?_
          have nx4 : ∀ (b : Bool) (t' : Fr) (h' : Heap) (n' : Nat), b = bit → t' 90 = .bool b → D < n' → (t' 1 = .ptr 0 0 0 ∧ t' 3 = .ro (null.map eFc) ∧ t' 4 = .ro (fst.map eSt) ∧ t' 5 = .sl B 0 M 32) → (t' 6 = .int .i64 k ∧ t' 7 = .int .i64 i ∧ t' 8 = .ptr bp 0 0) → t' 9 = .int .i64 q → t' 10 = .ptr D 0 0 → t' 11 = .bool al → t' 12 = .int .i64 j → h' 0 = some (.cells [eGr g]) → h' bp = some (.cells [ePr p]) → h' D = some (.cells [eSt x]) → h' B = some (.cells ((d.map eSt).set ν (cB f))) → K t' h' n' := by
            intro b t' h' n' e0 e1 e2 e3 e4 e5 e6 e7 e8 e9 e10 e11 e12
            have e3' := e3
            have e4' := e4
            obtain ⟨c1, c3, c4, c5⟩ := e3'
            obtain ⟨c6, c7, c8⟩ := e4'
            refine hK _ _ _ ?_
            cases b
            · rw [← e0, Bool.or_false] at hfn
              have hfe : (fun y => if y = j then f j else f y) = f := by
                funext y
                by_cases h1 : y = j
                · rw [if_pos h1, h1]
                · rw [if_neg h1]
              rw [hfe] at hfn
              refine W.condF (by simp only [go_sem, e1]) ?_
              refine W.skip ?_
              simp only [go_sem]
              exact nx3 _ _ _ e2 e3 e4 e5 e6 e7 e8 e9 e10 e11 (by rw [← hfn]; exact e12)
            · rw [← e0, Bool.or_true] at hov
              refine W.condT (by simp only [go_sem, e1]) ?_
              refine W.region (k := 11) rfl ?_
              simp only [go_sem, c5, c8, e5, e8, e10, e12, hs, hν, hGl, hGv, hlf, hov, show (ν : Int) < (M : Int) by omega, show (j : Int) < 32 by omega, Nat.mul_one, show j ≤ 31 by omega, List.set_set]
              exact nx3 _ _ _ (by omega) e3 e4 e5 e6 e7 e8 (by simp only [go_sem, z0, if_false, e9]) (by simp only [go_sem, show ¬ bp = B by omega, if_false, e10]) (by simp only [go_sem, zB', if_false, e11]) (by simp only [go_sem])
          clear hK
          cases hxj : x.testBit j
          · cases al
            · simp only [go_sem, l7, l8, l9, l12, hxl, hgetx, hxj, show (j : Int) < 32 by omega, Nat.mul_one, show j ≤ 31 by omega]
              exact nx4 _ _ _ _ (by rw [hbit, hxj]; rfl) rfl (by omega) l4 l5 l6 l7 l8 l9 (by simp only [go_sem, l10]) (by simp only [go_sem, l11]) (by simp only [go_sem, l12]) (by simp only [go_sem, l13])
            · simp only [go_sem, a5, a8, l7, l8, l9, l11, l12, l13, hxl, hgetx, hxj, hμ, hGμ, hGl, hrl, hrg, show (μ : Int) < (M : Int) by omega, show (j : Int) < 32 by omega, Nat.mul_one, show j ≤ 31 by omega]
              exact nx4 _ _ _ _ (by rw [hbit, hxj]; rfl) rfl (by omega) l4 l5 l6 l7 l8 l9 (by simp only [go_sem, l10]) (by simp only [go_sem, l11]) (by simp only [go_sem, l12]) (by simp only [go_sem, l13])
          · simp only [go_sem, l7, l8, l9, l12, hxl, hgetx, hxj, show (j : Int) < 32 by omega, Nat.mul_one, show j ≤ 31 by omega]
            exact nx4 _ _ _ _ (by rw [hbit, hxj]; rfl) rfl (by omega) l4 l5 l6 l7 l8 l9 (by simp only [go_sem, l10]) (by simp only [go_sem, l11]) (by simp only [go_sem, l12]) (by simp only [go_sem, l13])
        · refine W.exit ?_
          simp only [go_sem]
          have hj : j = 32 := by simp at hc4; omega
          subst hj
          have hfin2 : (d.map eSt).set ν (cB fun t => if t < 32 then mo.testBit t else o.testBit t) = (d.set ν mo).map eSt := by
            rw [List.map_set]
            congr 1
          rw [hfin2] at l13
          refine nx (d.set ν mo) _ _ _ (by rw [List.length_set]; exact k3) (k4.set (by rw [hmo]; exact moreF_lt k4 (by rw [hbx]; exact hbx ▸ b5))) k5 (by omega) l4 l5 l6 (by simp only [go_sem, l10]) (by simp only [go_sem, l11]) (by simp only [go_sem, l13])
      · refine W.exit ?_
        simp only [go_sem]
        have hqe : q = p.right.length := by simp at hc3; omega
        subst hqe
        rw [List.drop_length, behL] at k5
        simp only [List.foldl_nil] at k5
        refine W.region (k := 3) rfl ?_
        simp only [go_sem, a7]
        refine ⟨g.prods.length - (i + 1), by omega, i + 1, d, rfl, by omega, k3, k4, by rw [← hR]; exact k5, by omega, k7, a6, ?_, ?_, ?_⟩
        · rw [wrap64 (by omega) (by omega)]; rfl
        · simp only [go_sem, k10]
        · simp only [go_sem, k12]
    · refine W.exit ?_
      simp only [go_sem]
      have hie : i = g.prods.length := by simp at hc2; omega
      subst hie
      rw [List.drop_length] at j5
      simp only [List.flatMap_nil, List.foldl_nil] at j5
      refine W.region (k := 3) rfl ?_
      simp only [go_sem, j8]
      refine ⟨M + 1 - (k + 1), by omega, k + 1, c, rfl, by omega, j3, j4, ?_, by omega, j7, ?_, ?_, ?_⟩
      · rw [show M + 1 - (k + 1) = q by omega, j5]; exact i5
      · rw [wrap64 (by omega) (by omega)]; rfl
      · simp only [go_sem, j10]
      · simp only [go_sem, j11]
  · refine W.exit ?_
    simp only [go_sem]
    have hk : k = M + 1 := by simp at hc; omega
    subst hk
    rw [Nat.sub_self, roundsB] at i5
    refine W.rseq (k := 2) rfl fun K hK => ?_
    simp only [go_sem]
    refine hK _ _ _ ?_
    clear hK K
    refine W.ret ?_
    simp only [go_sem]
    have : followR g = s := by rw [followR, hr, if_pos rfl, ← hL, ← hM, ← i5]
    rw [this]
    exact .inr ⟨B, by rw [i3]; exact a5, by simp only [go_sem, i10]⟩

end Go.Av

