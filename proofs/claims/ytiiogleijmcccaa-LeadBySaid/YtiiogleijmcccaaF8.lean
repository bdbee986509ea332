/-
  Layer 11, the document's answer: First, round by round. Conditions: none.
-/
import Derived.Test.YtiiogleijmcccaaF7
namespace Go.Av
open Go.Proofs
set_option maxRecDepth 100000
set_option linter.unusedSimpArgs false
set_option linter.unusedVariables false

def addR (null : List Fc) (s : List Nat) (p : Pr) : List Nat := s.set p.left.toNat (addF null s p)

def roundF (g : Gr) (null : List Fc) (s : List Nat) : List Nat := g.prods.foldl (addR null) s

def roundsF (g : Gr) (null : List Fc) : Nat → List Nat → List Nat
  | 0, s => s
  | k + 1, s => roundsF g null k (roundF g null s)

def firstR (g : Gr) : List Nat := if right g then roundsF g (ranksL g false) (g.nons.toNat + 1) (List.replicate g.nons.toNat 0) else []

/-- Rows of bools in a block of their own, or none. -/
def OwnSt (l : List Nat) (r : AV) (h : Heap) : Prop := (l = [] ∧ (r = .nils ∨ r = .ro [])) ∨ ∃ b, r = .sl b 0 l.length 32 ∧ h b = some (.cells (l.map eSt))

theorem rf_sts {fr : Bool} {d : Nat} {h : Heap} {b : Nat} {l : List Nat} (hb : h b = some (.cells (l.map eSt))) : rf fr (d + 4) h (.sl b 0 l.length 32) = some (.ro (l.map eSt)) := rf_sla hb (by simp) rfe_st

theorem OwnSt.pf {f : FuncId} {args : List AV} {l : List Nat} (h : FH pg Tq f args h0 0 fun r h _ => OwnSt l r h) : PF pg Tq f args (.ro (l.map eSt)) := by
  obtain ⟨r, h', n', hb, ho⟩ := h
  refine ⟨r, h', n', hb, 4, fun fr => ?_⟩
  rcases ho with ⟨rfl, rfl | rfl⟩ | ⟨b, rfl, hh⟩
  · simp [rf]
  · simp [rf]
  · exact rf_sts hh

theorem addR_len {null : List Fc} {s : List Nat} {p : Pr} : (addR null s p).length = s.length := by simp [addR]

theorem foldA_len {null : List Fc} : ∀ (ps : List Pr) (s : List Nat), (ps.foldl (addR null) s).length = s.length
  | [], s => rfl
  | p :: ps, s => by rw [List.foldl_cons, foldA_len ps, addR_len]

theorem f47 (g : Gr) (hg : g.Small) : FH pg Tq 47 [.agg (eGr g)] h0 0 fun r h _ => OwnSt (firstR g) r h := by
  have hg1 : g.prods.length < 2 ^ 60 := hg.1
  refine FH.of (N := 62) (rs := #[.tmp 2]) Try.func47 rfl rfl (of_decide_eq_true rfl) rfl (by decide) ?_
  refine W.rseq (k := 2) rfl fun K hK => ?_
  simp only [go_sem]
  refine hK _ _ _ ?_
  clear hK K
  refine W.seq ?_
  refine W.rseq (k := 3) rfl fun K hK => ?_
  simp only [go_sem]
  refine VCall.frz 6 (f35 g hg) rfl ?_
  try simp only [go_sem]
  refine hK _ _ _ ?_
  clear hK K
  cases hr : right g
  · refine W.condT (by simp only [go_sem]) ?_
    refine W.rseq (k := 1) rfl fun K hK => ?_
    simp only [go_sem]
    refine hK _ _ _ ?_
    clear hK K
    refine W.ret ?_
    simp only [go_sem]
    exact .inl ⟨by simp [firstR, hr], .inl rfl⟩
  refine W.condF (by simp only [go_sem]) ?_
  refine W.skip ?_
  simp only [go_sem]
  obtain ⟨⟨hn1, hn2⟩, _, _, hp60, _⟩ := right_in hr
  have hfin := right_fin hr
  obtain ⟨M, hM⟩ : ∃ M, M = g.nons.toNat := ⟨_, rfl⟩
  have hMn : g.nons = (M : Int) := by omega
  rw [← hM] at hfin
  obtain ⟨null, hnull⟩ : ∃ null, null = ranksL g false := ⟨_, rfl⟩
  have hnl : null.length = M := by have := (ranks_fin (terms := false) hr).1; rw [hnull]; omega
  have h31 := OwnFc.pf (f31 g hg false)
  rw [← ranks_same, ← hnull] at h31
  refine W.rseq (k := 3) rfl fun K hK => ?_
  simp only [go_sem]
  refine VCall.frz 6 h31 rfl ?_
  try simp only [go_sem]
  refine hK _ _ _ ?_
  clear hK K
  refine W.rseq (k := 4) rfl fun K hK => ?_
  simp only [go_sem, hMn, show (0 : Int) ≤ (M : Int) by omega, show (M : Int) * 32 ≤ 140737488355328 by omega, show (0 : Nat) < 32 by omega]
  refine hK _ _ _ ?_
  clear hK K
  obtain ⟨B, hB⟩ : ∃ B, B = 10 := ⟨_, rfl⟩
  have z0 : ¬ 0 = B := by omega
  refine W.seq ?_
  refine W.rseq (k := 1) rfl fun K hK => ?_
  simp only [go_sem]
  refine hK _ _ _ ?_
  clear hK K
  refine W.block (W.while (fun m t h n => ∃ (k : Nat) (s : List Nat), m = M + 1 - k ∧ k ≤ M + 1 ∧ s.length = M ∧ Lt32 s ∧ roundsF g null (M + 1 - k) s = roundsF g null (M + 1) (List.replicate M 0) ∧ B < n ∧ t 1 = .ptr 0 0 0 ∧ t 3 = .ro (null.map eFc) ∧ t 4 = .sl B 0 M 32 ∧ t 5 = .int .i64 k ∧ h 0 = some (.cells [eGr g]) ∧ h B = some (.cells (s.map eSt))) (M + 1)
    ⟨0, List.replicate M 0, by simp, by simp, by simp, ?_, rfl, by omega, rfl, rfl, by rw [hB]; rfl, rfl, by simp only [go_sem, hMn], by simp only [go_sem, hB]; rw [List.map_replicate]; rfl⟩ fun m t h n ⟨k, s, i1, i2, i3, i4, i5, i6, i7, i8, i9, i10, i11, i12⟩ => ?_)
  · intro s hs; rw [List.mem_replicate] at hs; rw [hs.2]; decide
  have hw1 : IntKind.wrap .i64 ((M : Int) + 1) = (M : Int) + 1 := wrap64 (by omega) (by omega)
  refine W.seq ?_
  refine W.rseq (k := 5) rfl fun K hK => ?_
  simp only [go_sem, i7, i10, i11, hMn, hw1]
  refine hK _ _ _ ?_
  clear hK K
  refine W.cond rfl (fun hc => ?_) fun hc => ?_
  · refine W.skip ?_
    simp only [go_sem]
    have hk : k < M + 1 := by simp at hc; omega
    obtain ⟨q, hq⟩ : ∃ q, M + 1 - k = q + 1 := ⟨M - k, by omega⟩
    rw [hq, roundsF] at i5
    refine W.seq (W.block ?_)
    refine W.rseq (k := 1) rfl fun K hK => ?_
    simp only [go_sem]
    refine hK _ _ _ ?_
    clear hK K
    refine W.block (W.while (fun m t h n => ∃ (i : Nat) (c : List Nat), m = g.prods.length - i ∧ i ≤ g.prods.length ∧ c.length = M ∧ Lt32 c ∧ (g.prods.drop i).foldl (addR null) c = roundF g null s ∧ B < n ∧ t 1 = .ptr 0 0 0 ∧ t 3 = .ro (null.map eFc) ∧ t 4 = .sl B 0 M 32 ∧ t 5 = .int .i64 k ∧ t 6 = .int .i64 i ∧ h 0 = some (.cells [eGr g]) ∧ h B = some (.cells (c.map eSt))) g.prods.length
      ⟨0, s, by simp, by simp, i3, i4, rfl, by omega, i7, i8, i9, i10, rfl, by simp only [go_sem, i11], by simp only [go_sem, i12]⟩ fun m t h n ⟨i, c, j1, j2, j3, j4, j5, j6, j7, j8, j9, j10, j11, j12, j13⟩ => ?_)
    refine W.seq ?_
    refine W.rseq (k := 5) rfl fun K hK => ?_
    simp only [go_sem, j7, j11, j12]
    refine hK _ _ _ ?_
    clear hK K
    refine W.cond rfl (fun hc2 => ?_) fun hc2 => ?_
    · refine W.skip ?_
      simp only [go_sem]
      have hi : i < g.prods.length := by simp at hc2; omega
      obtain ⟨p, hp⟩ := get_some hi
      have hm : p ∈ g.prods := List.mem_of_getElem? hp
      obtain ⟨⟨hl0, hl1⟩, hsy⟩ := hfin p hm
      have hdr : g.prods.drop i = p :: g.prods.drop (i + 1) := by
        rw [List.drop_eq_getElem_cons hi]
        congr 1
        exact (List.getElem_eq_iff hi).2 hp
      rw [hdr, List.foldl_cons] at j5
      refine W.seq (W.block ?_)
      refine W.rseq (k := 15) rfl fun K hK => ?_
      simp only [go_sem, j7, j8, j9, j11, j12, hp]
      refine VCall.frzq 20 (rfs_cons rfl (rfs_cons (by rw [← j3]; exact rf_sts (by simp only [go_sem, show ∀ i, ¬ B = n + i from fun i => by omega, j13])) (rfs_cons rfl rfs_nil))) (f49 p.right c null (hg.2 p hm) (by omega) (by rw [j3]; exact hsy)) ?_
      obtain ⟨x, hx⟩ : ∃ x, x = (rowW c null 0 p.right).1 := ⟨_, rfl⟩
      rw [← hx]
      have hxl : (eSt x).length = 32 := cB_len
      have hxa : (eSt x).all scal = true := cB_scal
      have hlen0 : (eSt 0).length = 32 := cB_len
      simp only [go_sem]
      simp only [go_sem, hxl, hxa, j7, j8, j9, j11, j12, hp, eSt_take, Nat.le_refl, and_self, if_true]
      refine hK _ _ _ ?_
      first | clear hK K | clear hK | skip
      obtain ⟨D, hD⟩ : ∃ D, D = n + 17 := ⟨_, rfl⟩
      obtain ⟨ν, hν⟩ : ∃ ν : Nat, p.left = ν := ⟨p.left.toNat, by omega⟩
      have hνt : p.left.toNat = ν := by omega
      have hνM : ν < M := by omega
      obtain ⟨o, ho⟩ : ∃ o, o = c.getD ν 0 := ⟨_, rfl⟩
      have hgs : c[ν]? = some o := by rw [ho]; simp [show ν < c.length by omega]
      have hadd : addR null c p = c.set ν (o ||| x) := by rw [addR, addF, hνt, ← ho, ← hx]
      rw [hadd] at j5
      have hset0 : (c.map eSt).set ν (cB fun t => if t < 0 then (o ||| x).testBit t else o.testBit t) = c.map eSt := by
        refine List.ext_getElem? fun y => ?_
        rw [List.getElem?_set]
        split
        · rename_i e; subst e
          rw [if_pos (by rw [List.length_map]; omega), List.getElem?_map, hgs]
          simp [eSt]
        · rfl
      rw [← hD]
      have zB : ¬ B = D := by omega
      have zB' : ¬ D = B := by omega
      have zD : ¬ 0 = D := by omega
      have zD' : ¬ D = 0 := by omega
      refine W.rseq (k := 1) rfl fun K hK => ?_
      simp only [go_sem]
      refine hK _ _ _ ?_
      clear hK K
      refine W.block (W.while (fun m t h n => ∃ j : Nat, m = 32 - j ∧ j ≤ 32 ∧ B < n ∧ t 1 = .ptr 0 0 0 ∧ t 3 = .ro (null.map eFc) ∧ t 4 = .sl B 0 M 32 ∧ t 5 = .int .i64 k ∧ t 6 = .int .i64 i ∧ t 7 = .ptr D 0 0 ∧ t 9 = .int .i64 j ∧ h 0 = some (.cells [eGr g]) ∧ h D = some (.cells [eSt x]) ∧ h B = some (.cells ((c.map eSt).set ν (cB fun t => if t < j then (o ||| x).testBit t else o.testBit t)))) 32
        ⟨0, by simp, by simp, by omega, j7, j8, j9, j10, j11, rfl, rfl, ?_, ?_, ?_⟩ fun m t h n ⟨j, k1, k2, k3, k4, k5, k6, k7, k8, k9, k10, k11, k12, k13⟩ => ?_)
      · simp only [go_sem, zD, if_false, j12]
      · simp only [go_sem]
      · rw [hset0]; simp only [go_sem, zB, if_false, j13]
      refine W.seq ?_
      refine W.rseq (k := 2) rfl fun K hK => ?_
      simp only [go_sem, k10]
      refine hK _ _ _ ?_
      clear hK K
      refine W.cond rfl (fun hc3 => ?_) fun hc3 => ?_
      · refine W.skip ?_
        simp only [go_sem]
        have hj : j < 32 := by simp at hc3; omega
        refine W.seq (W.block ?_)
        obtain ⟨f, hf⟩ : ∃ f : Nat → Bool, f = fun t => if t < j then (o ||| x).testBit t else o.testBit t := ⟨_, rfl⟩
        rw [← hf] at k13
        have hfn : (fun y => if y = j then (f j || x.testBit j) else f y) = fun t => if t < j + 1 then (o ||| x).testBit t else o.testBit t := by
          funext y
          rw [hf]
          by_cases h1 : y = j
          · subst h1; simp
          · by_cases h2 : y < j
            · simp [h1, h2, show y < j + 1 by omega]
            · simp [h1, h2, show ¬ y < j + 1 by omega]
        have hgetx : ((eSt x).drop j).take 1 = [.bool (x.testBit j)] := cB_get hj
        have hlf : (cB f).length = 32 := cB_len
        have hov := cB_over (f := f) (b := f j || x.testBit j) hj
        rw [hfn] at hov
        have hGl : ((c.map eSt).set ν (cB f)).length = M := by rw [List.length_set, List.length_map, j3]
        have hGv : ((c.map eSt).set ν (cB f))[ν]? = some (cB f) := by rw [List.getElem?_set_self (by rw [List.length_map]; omega)]
        refine W.rseq (k := 3) rfl fun K hK => ?_
        simp only [go_sem, k9, k10, k12, hxl, hgetx, show (j : Int) < 32 by omega, Nat.mul_one, show j ≤ 31 by omega]
        refine hK _ _ _ ?_
        clear hK K
        cases hb : x.testBit j
        · rw [hb, Bool.or_false] at hfn
          refine W.condF (by simp only [go_sem]) ?_
          refine W.skip ?_
          simp only [go_sem]
          refine W.region (k := 3) rfl ?_
          simp only [go_sem, k10]
          have hfe : (fun y => if y = j then f j else f y) = f := by
            funext y
            by_cases h1 : y = j
            · rw [if_pos h1, h1]
            · rw [if_neg h1]
          rw [hfe] at hfn
          refine ⟨32 - (j + 1), by omega, j + 1, rfl, by omega, by omega, k4, k5, k6, k7, k8, k9, ?_, ?_, ?_, ?_⟩
          · rw [wrap64 (by omega) (by omega)]; rfl
          · simp only [go_sem, k11]
          · simp only [go_sem, k12]
          · simp only [go_sem, k13]; rw [hfn]
        · rw [hb, Bool.or_true] at hov
          refine W.condT (by simp only [go_sem]) ?_
          refine W.region (k := 11) rfl ?_
          simp only [go_sem, k4, k6, k8, k10, k11, k13, hp, hν, hGl, hGv, hlf, hov, show (ν : Int) < (M : Int) by omega, show (j : Int) < 32 by omega, Nat.mul_one, show j ≤ 31 by omega, List.set_set]
          refine W.region (k := 3) rfl ?_
          simp only [go_sem, k10]
          refine ⟨32 - (j + 1), by omega, j + 1, rfl, by omega, by omega, k4, k5, k6, k7, k8, k9, ?_, ?_, ?_, ?_⟩
          · rw [wrap64 (by omega) (by omega)]; rfl
          · simp only [go_sem, z0, if_false, k11]
          · simp only [go_sem, zB', if_false, k12]
          · simp only [go_sem]
      · refine W.exit ?_
        simp only [go_sem]
        have hj : j = 32 := by simp at hc3; omega
        subst hj
        have hfin2 : (c.map eSt).set ν (cB fun t => if t < 32 then (o ||| x).testBit t else o.testBit t) = (c.set ν (o ||| x)).map eSt := by
          rw [List.map_set]
          congr 1
        rw [hfin2] at k13
        have hx32 : x < 2 ^ 32 := by rw [hx]; exact rowW_lt j4 p.right 0 (by decide) (by rw [j3]; exact hsy)
        have ho32 : o < 2 ^ 32 := by rw [ho]; exact getD_lt j4 ν
        refine W.region (k := 3) rfl ?_
        simp only [go_sem, k8]
        refine ⟨g.prods.length - (i + 1), by omega, i + 1, _, rfl, by omega, by rw [List.length_set]; exact j3, ?_, j5, by omega, k4, k5, k6, k7, ?_, ?_, ?_⟩
        · intro y hy
          rcases List.mem_or_eq_of_mem_set hy with h | h
          · exact j4 y h
          · rw [h]; exact Nat.or_lt_two_pow ho32 hx32
        · rw [wrap64 (by omega) (by omega)]; rfl
        · simp only [go_sem, k11]
        · simp only [go_sem, k13]
    · refine W.exit ?_
      simp only [go_sem]
      have hi : i = g.prods.length := by simp at hc2; omega
      subst hi
      rw [List.drop_length] at j5
      simp only [List.foldl_nil] at j5
      refine W.region (k := 3) rfl ?_
      simp only [go_sem, j10]
      refine ⟨M + 1 - (k + 1), by omega, k + 1, c, rfl, by omega, j3, j4, ?_, by omega, j7, j8, j9, ?_, ?_, ?_⟩
      · rw [show M + 1 - (k + 1) = q by omega, j5]; exact i5
      · rw [wrap64 (by omega) (by omega)]; rfl
      · simp only [go_sem, j12]
      · simp only [go_sem, j13]
  · refine W.exit ?_
    simp only [go_sem]
    have hk : k = M + 1 := by simp at hc; omega
    subst hk
    rw [Nat.sub_self, roundsF] at i5
    refine W.rseq (k := 2) rfl fun K hK => ?_
    simp only [go_sem]
    refine hK _ _ _ ?_
    clear hK K
    refine W.ret ?_
    simp only [go_sem]
    have : firstR g = s := by rw [firstR, hr, if_pos rfl, ← hnull, ← hM, ← i5]
    rw [this]
    exact .inr ⟨B, by rw [i3]; exact i9, i12⟩

end Go.Av

