/-
  Layer 13, package left: the steps. Conditions: none.
-/
import Derived.Test.YtiiogleijmcccaaC13
namespace Go.Av
open Go.Proofs
set_option maxRecDepth 100000
set_option linter.unusedSimpArgs false
set_option linter.unusedVariables false

attribute [go_sem] eLf eTo aMapUpdate aLookup

/-- A map of steps, a slice of them. -/
def StMem (g : Gr) (lo : Nat) (h : Heap) (n : Nat) (lv : AV) (mb : Nat) : Prop := lo ≤ mb ∧ mb < n ∧ h mb = some (.map ((stepsG g).map ent)) ∧ Uq (stepsG g) ∧ (stepsG g).length ≤ 480 ∧ SlL eLf 2 h lo n lv (stepsG g)

set_option maxHeartbeats 8000000 in
theorem f104 (g : Gr) (hg : g.Small) (hr : right g = true) (h : Heap) (n : Nat) : FH pg Tq 104 [.agg (eGr g)] h n fun res h' n' => n ≤ n' ∧ (∀ x, x < n → h' x = h x) ∧ ∃ lv mb, res = .tup [lv, .mp mb] ∧ StMem g n h' n' lv mb := by
  obtain ⟨⟨hn1, hn2⟩, _, _, hp60, h5⟩ := right_in hr
  obtain ⟨null, hnull⟩ : ∃ null, null = ranksL g false := ⟨_, rfl⟩
  have hnl : (null.length : Int) = g.nons := by rw [hnull]; exact (ranks_fin (terms := false) hr).1
  have h30 := OwnFc.pf (f30 g hg)
  rw [← hnull] at h30
  have hsG : stepsG g = stepsF null g.prods.zipIdx := by rw [stepsG, hnull]
  have zn : ∀ j, ¬ n = n + 3 + j := fun j => by omega
  refine FH.of (N := 59) (rs := #[.tmp 2, .tmp 3]) Try.func104 rfl rfl (of_decide_eq_true rfl) rfl (by decide) ?_
  refine W.rseq (k := 3) rfl fun K hK => ?_
  simp only [go_sem]
  refine hK _ _ _ ?_
  clear hK K
  refine W.rseq (k := 3) rfl fun K hK => ?_
  simp only [go_sem]
  refine VCall.frz 6 h30 rfl ?_
  try simp only [go_sem]
  refine hK _ _ _ ?_
  clear hK K
  refine W.rseq (k := 1) rfl fun K hK => ?_
  simp only [go_sem]
  refine hK _ _ _ ?_
  clear hK K
  obtain ⟨mb, hmb⟩ : ∃ mb, mb = n + 7 := ⟨_, rfl⟩
  refine W.rseq (k := 2) rfl fun K hK => ?_
  simp only [go_sem, Option.isNone_none]
  refine hK _ _ _ ?_
  clear hK K
  have hmn : ¬ n = mb := by omega
  refine W.seq ?_
  rw [← hmb]
  refine W.rseq (k := 4) rfl fun K hK => ?_
  simp only [go_sem, hmn]
  refine hK _ _ _ ?_
  clear hK K
  refine W.block (W.while (fun m t h1 n1 => ∃ (i : Nat) (L : List Lf), m = g.prods.length - i ∧ i ≤ g.prods.length ∧ mb < n1 ∧ L.length ≤ 8 * i ∧ L ++ stepsF null (g.prods.zipIdx.drop i) = stepsG g ∧ Ahead L i 0 ∧ Uq L ∧ (∀ x, x < n → h1 x = h x) ∧ h1 n = some (.cells [eGr g]) ∧ h1 mb = some (.map (L.map ent)) ∧ SlL eLf 2 h1 (n + 1) n1 (t 5) L ∧ (t 1 = .ptr n 0 0 ∧ t 4 = .ro (null.map eFc) ∧ t 6 = .mp mb ∧ t 16 = .ro (g.prods.map ePr) ∧ t 17 = .int .i64 g.prods.length) ∧ t 18 = .int .i64 i) g.prods.length
    ⟨0, [], by simp, by simp, by omega, by simp, by rw [hsG]; rfl, (fun y hy => by cases hy), (fun y hy => by cases hy), (fun x hx => by simp only [go_sem, show ¬ x = mb by omega, show ¬ x = n by omega]), by simp only [go_sem, hmn], by simp only [go_sem, List.map_nil], .inl ⟨rfl, rfl⟩, ⟨rfl, rfl, rfl, rfl, rfl⟩, rfl⟩ fun m t h1 n1 ⟨i, L, i1, i2, i3, i4, i5, i6, i7, i8, i9, i10, i11, i12, i13⟩ => ?_)
  have i12' := i12
  obtain ⟨a1, a4, a6, a16, a17⟩ := i12'
  refine W.rseq (k := 1) rfl fun K hK => ?_
  simp only [go_sem, a17, i13]
  refine hK _ _ _ ?_
  clear hK K
  refine W.seq ?_
  refine W.cond rfl (fun hc => ?_) fun hc => ?_
  · refine W.skip ?_
    simp only [go_sem]
    have hi : i < g.prods.length := by simp at hc; omega
    obtain ⟨p, hp⟩ := get_some hi
    have hm : p ∈ g.prods := List.mem_of_getElem? hp
    obtain ⟨⟨hl0, hl1⟩, h8, hsy⟩ := h5 p hm
    obtain ⟨μ, hμ⟩ : ∃ μ : Nat, p.left = μ := ⟨p.left.toNat, by omega⟩
    obtain ⟨R, hR⟩ : ∃ R, R = stepsF null (g.prods.zipIdx.drop (i + 1)) := ⟨_, rfl⟩
    have hF : stepsF null (g.prods.zipIdx.drop i) = stepsP null i p.left.toNat p.right 0 ++ R := by rw [zip_drop hp, hR]; rfl
    rw [hF, ← List.append_assoc] at i5
    refine W.seqk fun K hK => ?_
    have nx : ∀ (t' : Fr) (h' : Heap) (n' : Nat) (L' : List Lf) (kk : Nat), mb < n' → L'.length ≤ 8 * i + 8 → L' ++ R = stepsG g → Ahead L' i kk → Uq L' → (∀ x, x < n → h' x = h x) → h' n = some (.cells [eGr g]) → h' mb = some (.map (L'.map ent)) → SlL eLf 2 h' (n + 1) n' (t' 5) L' → (t' 1 = .ptr n 0 0 ∧ t' 4 = .ro (null.map eFc) ∧ t' 6 = .mp mb ∧ t' 16 = .ro (g.prods.map ePr) ∧ t' 17 = .int .i64 g.prods.length) → t' 18 = .int .i64 i → K t' h' n' := by
      intro t' h' n' L' kk e1 e2 e3 e4 e5 e6 e7 e8 e9 e10 e11
      refine hK _ _ _ ?_
      refine W.region (k := 2) rfl ?_
      simp only [go_sem, e11]
      refine ⟨g.prods.length - (i + 1), by omega, i + 1, L', rfl, by omega, by omega, by omega, by rw [← hR]; exact e3, e4.next, e5, fun x hx => e6 x hx, e7, e8, e9.next rfl (fun x hx hx' => rfl) (by omega) (Nat.le_refl _), e10, ?_⟩
      rw [wrap64 (by omega) (by omega)]; rfl
    clear hK
    refine W.block ?_
    refine W.rseq (k := 6) rfl fun K hK => ?_
    simp only [go_sem, a16, i13, hp]
    refine hK _ _ _ ?_
    clear hK K
    refine W.rseq (k := 4) rfl fun K hK => ?_
    simp only [go_sem]
    refine hK _ _ _ ?_
    clear hK K
    obtain ⟨bp, hbp⟩ : ∃ bp, bp = n1 + 4 := ⟨_, rfl⟩
    have zn : ∀ j, ¬ n = n1 + j := fun j => by omega
    have zm : ∀ j, ¬ mb = n1 + j := fun j => by omega
    refine W.block (W.while (fun m t h1 n1 => ∃ (k : Nat) (M : List Lf), m = p.right.length - k ∧ k ≤ p.right.length ∧ bp < n1 ∧ M.length ≤ 8 * i + k ∧ (M ++ stepsP null i p.left.toNat (p.right.drop k) k) ++ R = stepsG g ∧ Ahead M i k ∧ Uq M ∧ (∀ x, x < n → h1 x = h x) ∧ h1 n = some (.cells [eGr g]) ∧ h1 mb = some (.map (M.map ent)) ∧ h1 bp = some (.cells [ePr p]) ∧ SlL eLf 2 h1 (n + 1) n1 (t 5) M ∧ (∀ b len, t 5 = .sl b 0 len 2 → b ≠ bp) ∧ (t 1 = .ptr n 0 0 ∧ t 4 = .ro (null.map eFc) ∧ t 6 = .mp mb ∧ t 16 = .ro (g.prods.map ePr) ∧ t 17 = .int .i64 g.prods.length) ∧ t 18 = .int .i64 i ∧ (t 7 = .int .i64 i ∧ t 8 = .ptr bp 0 0 ∧ t 24 = .ro (p.right.map eSy) ∧ t 25 = .int .i64 p.right.length) ∧ t 26 = .int .i64 k) p.right.length
      ⟨0, L, by simp, by simp, by omega, by omega, by simpa using i5, i6, i7, (fun x hx => by simp only [go_sem, show ∀ j, ¬ x = n1 + j from fun j => by omega]; exact i8 x hx), by simp only [go_sem, zn, i9], by simp only [go_sem, zm, i10], by simp only [go_sem, hbp], i11.next rfl (fun x hx hx' => by simp only [go_sem, show ∀ j, ¬ x = n1 + j from fun j => by omega]) (by omega) (Nat.le_refl _), ?_, i12, i13, ⟨rfl, by rw [hbp]; rfl, rfl, rfl⟩, rfl⟩ fun m t h1 n1 ⟨k, M, k1, k2, k3, k4, k5, k6, k7, k8, k9, k10, k11, k12, k13, k14, k15, k16, k17⟩ => ?_)
    · intro b len hb
      have hb2 : t 5 = .sl b 0 len 2 := hb
      rcases i11 with ⟨_, e⟩ | ⟨b', e, _, hb', _⟩
      · rw [e] at hb2; cases hb2
      · rw [e] at hb2; cases hb2; omega
    clear zn zm a1 a4 a6 a16 a17
    have k14' := k14
    have k16' := k16
    obtain ⟨a1, a4, a6, a16, a17⟩ := k14'
    obtain ⟨a7, a8, a24, a25⟩ := k16'
    refine W.rseq (k := 1) rfl fun K hK => ?_
    simp only [go_sem, a25, k17]
    refine hK _ _ _ ?_
    clear hK K
    refine W.seq ?_
    refine W.cond rfl (fun hc2 => ?_) fun hc2 => ?_
    · refine W.skip ?_
      simp only [go_sem]
      have hk : k < p.right.length := by simp at hc2; omega
      obtain ⟨sy, hs⟩ := get_some hk
      have hsm := List.mem_of_getElem? hs
      have hsd : p.right.drop k = sy :: p.right.drop (k + 1) := by
        rw [List.drop_eq_getElem_cons hk]
        congr 1
        exact (List.getElem_eq_iff hk).2 hs
      rw [hsd, stepsP] at k5
      have zn : ∀ j, ¬ n = n1 + j := fun j => by omega
      have zm : ∀ j, ¬ mb = n1 + j := fun j => by omega
      have zp : ∀ j, ¬ bp = n1 + j := fun j => by omega
      refine W.seqk fun K hK => ?_
      have nx2 : ∀ (t' : Fr) (h' : Heap) (n' : Nat) (M' : List Lf), n1 ≤ n' → M'.length ≤ 8 * i + (k + 1) → (M' ++ stepsP null i p.left.toNat (p.right.drop (k + 1)) (k + 1)) ++ R = stepsG g → Ahead M' i (k + 1) → Uq M' → (∀ x, x < n → h' x = h x) → h' n = some (.cells [eGr g]) → h' mb = some (.map (M'.map ent)) → h' bp = some (.cells [ePr p]) → SlL eLf 2 h' (n + 1) n' (t' 5) M' → (∀ b len, t' 5 = .sl b 0 len 2 → b ≠ bp) → (t' 1 = .ptr n 0 0 ∧ t' 4 = .ro (null.map eFc) ∧ t' 6 = .mp mb ∧ t' 16 = .ro (g.prods.map ePr) ∧ t' 17 = .int .i64 g.prods.length) → t' 18 = .int .i64 i → (t' 7 = .int .i64 i ∧ t' 8 = .ptr bp 0 0 ∧ t' 24 = .ro (p.right.map eSy) ∧ t' 25 = .int .i64 p.right.length) → t' 26 = .int .i64 k → K t' h' n' := by
        intro t' h' n' M' e1 e4 e5 e6 e7 e8 e9 e10 e11 e12 e13 e14 e15 e16 e17
        refine hK _ _ _ ?_
        refine W.region (k := 2) rfl ?_
        simp only [go_sem, e17]
        refine ⟨p.right.length - (k + 1), by omega, k + 1, M', rfl, by omega, by omega, e4, by simpa using e5, e6, e7, fun x hx => e8 x hx, e9, e10, e11, e12.next rfl (fun x hx hx' => rfl) (by omega) (Nat.le_refl _), e13, e14, e15, e16, ?_⟩
        rw [wrap64 (by omega) (by omega)]; rfl
      clear hK
      refine W.block ?_
      refine W.rseq (k := 6) rfl fun K hK => ?_
      simp only [go_sem, a24, k17, hs]
      refine hK _ _ _ ?_
      clear hK K
      refine W.seq ?_
      refine W.rseq (k := 3) rfl fun K hK => ?_
      simp only [go_sem]
      refine hK _ _ _ ?_
      clear hK K
      cases hn : sy.non
      · rw [hn] at k5
        simp only [Bool.false_eq_true, if_false, List.append_nil] at k5
        refine W.condT (by simp only [go_sem, hn]) ?_
        refine W.exit ?_
        simp only [go_sem]
        exact nx _ _ _ M k (by omega) (by omega) k5 k6 k7 (fun x hx => by simp only [go_sem, show ∀ j, ¬ x = n1 + j from fun j => by omega]; exact k8 x hx) (by simp only [go_sem, zn, k9]) (by simp only [go_sem, zm, k10]) (k12.next rfl (fun x hx hx' => by simp only [go_sem, show ∀ j, ¬ x = n1 + j from fun j => by omega]) (by omega) (Nat.le_refl _)) k14 k15
      rw [hn] at k5
      simp only [if_true] at k5
      refine W.condF (by simp only [go_sem, hn]) ?_
      refine W.skip ?_
      simp only [go_sem]
      have hsy2 := hsy sy hsm
      rw [hn, if_pos rfl] at hsy2
      obtain ⟨ν, hν⟩ : ∃ ν : Nat, sy.n = ν := ⟨sy.n.toNat, by omega⟩
      have hμt : p.left.toNat = μ := by omega
      have hνt : sy.n.toNat = ν := by omega
      rw [hμt, hνt] at k5
      rw [hμt] at nx2
      obtain ⟨x, hx⟩ : ∃ x : Lf, x = ⟨i, k, μ, ν⟩ := ⟨_, rfl⟩
      have hxe : eLf x = [.int .i64 i, .int .i64 k] := by rw [hx]; rfl
      have hxp : x.prod = i := by rw [hx]
      have hxd : x.dot = k := by rw [hx]
      rw [← hx] at k5
      have hfn := find_no (x := x) M (by rw [hxp, hxd]; exact k6)
      have hky := key_lf (x := x)
      rw [hxe] at hfn hky
      have hME : (M ++ [x]).map ent = M.map ent ++ [(.agg [.int .i64 i, .int .i64 k], .agg [.int .i64 μ, .int .i64 ν])] := by rw [List.map_append, hx]; rfl
      have hML : (M ++ [x]).map eLf = M.map eLf ++ [[.int .i64 i, .int .i64 k]] := by rw [List.map_append, hx]; rfl
      have hUq : Uq (M ++ [x]) := k7.snoc (by rw [hxp, hxd]; exact k6)
      have hAh : Ahead (M ++ [x]) i (k + 1) := by
        have := Ahead.snoc (x := x) (by rw [hxp, hxd]; exact k6)
        rwa [hxp, hxd] at this
      refine W.rseq (k := 5) rfl fun K hK => ?_
      simp only [go_sem, a7]
      refine hK _ _ _ ?_
      clear hK K
      refine W.rseq (k := 5) rfl fun K hK => ?_
      have nx3 : ∀ (t' : Fr) (h' : Heap) (n' : Nat), n1 + 18 < n' → (∀ x, x < n → h' x = h x) → h' n = some (.cells [eGr g]) → h' mb = some (.map (M.map ent)) → h' bp = some (.cells [ePr p]) → h' (n1 + 4) = some (.cells [eSy sy]) → h' (n1 + 13) = some (.cells [[.int .i64 i, .int .i64 k]]) → SlL eLf 2 h' (n + 1) n' (t' 5) (M ++ [x]) → (∀ b len, t' 5 = .sl b 0 len 2 → b ≠ bp) → (t' 1 = .ptr n 0 0 ∧ t' 4 = .ro (null.map eFc) ∧ t' 6 = .mp mb ∧ t' 16 = .ro (g.prods.map ePr) ∧ t' 17 = .int .i64 g.prods.length) → t' 18 = .int .i64 i → (t' 7 = .int .i64 i ∧ t' 8 = .ptr bp 0 0 ∧ t' 24 = .ro (p.right.map eSy) ∧ t' 25 = .int .i64 p.right.length) → t' 26 = .int .i64 k → t' 10 = .ptr (n1 + 4) 0 0 → t' 11 = .ptr (n1 + 13) 0 0 → K t' h' n' := by
        intro t h' n' e0 e1 e2 e3 e4 e5 e6 e7 e8 e9 e10 e11 e12 e13 e14
        have e9' := e9
        have e11' := e11
        obtain ⟨b1, b4, b6, b16, b17⟩ := e9'
        obtain ⟨b7, b8, b24, b25⟩ := e11'
        refine hK _ _ _ ?_
        clear hK
        have y1 : ¬ n1 + 4 = mb := by omega
        have y2 : ¬ n1 + 13 = mb := by omega
        refine W.rseq (k := 8) rfl fun K hK => ?_
        simp only [go_sem, b6, b8, e13, e14, e3, e4, e5, e6, hμ, hν, hky, hfn]
        refine hK _ _ _ ?_
        clear hK K
        obtain ⟨bb, hbb⟩ := fc_get (l := null) (n := (ν : Int)) (by omega) (by omega)
        rw [Int.toNat_natCast] at hbb
        refine W.rseq (k := 7) rfl fun K hK => ?_
        simp only [go_sem, b4, e13, e5, y1, hν, hbb]
        refine hK _ _ _ ?_
        clear hK K
        have hblk : SlL eLf 2 (upd h' mb (some (.map (M.map ent ++ [(.agg [.int .i64 i, .int .i64 k], .agg [.int .i64 μ, .int .i64 ν])])))) (n + 1) (n' + 8 + 7) (t 5) (M ++ [x]) := by
          rcases e7 with e7 | ⟨b, q1, q2, q3, q4⟩
          · exact .inl e7
          · have hbm : ¬ b = mb := fun e => by rw [e, e3] at q4; cases q4
            exact .inr ⟨b, q1, q2, by omega, by simp only [go_sem, hbm, q4]⟩
        by_cases hz : rk null ν = 0
        · rw [hν, if_pos hz] at k5
          refine W.condT (by simp only [go_sem, hz]) ?_
          refine W.exit ?_
          simp only [go_sem]
          exact nx _ _ _ (M ++ [x]) (k + 1) (by omega) (by simp; omega) k5 hAh hUq (fun y hy => by simp only [go_sem, show ¬ y = mb by omega]; exact e1 y hy) (by simp only [go_sem, hmn, e2]) (by rw [hME]; simp only [go_sem]) hblk e9 e10
        · rw [hν, if_neg hz] at k5
          refine W.condF (by simp only [go_sem, show decide (rk null ν = 0) = false from decide_eq_false hz]) ?_
          refine W.skip ?_
          simp only [go_sem]
          exact nx2 _ _ _ (M ++ [x]) (by omega) (by simp; omega) (by simpa using k5) hAh hUq (fun y hy => by simp only [go_sem, show ¬ y = mb by omega]; exact e1 y hy) (by simp only [go_sem, hmn, e2]) (by rw [hME]; simp only [go_sem]) (by simp only [go_sem, show ¬ bp = mb by omega, e4]) hblk e8 e9 e10 e11 e12
      clear hK
      have y3 : ¬ n1 + 13 = n1 + 4 := by omega
      rcases k12 with ⟨w0, w5⟩ | ⟨b, w5, w1, w2, w3⟩
      · simp only [go_sem, w5, ne_eq, not_false_eq_true, Int.reduceEq, show (0 : Nat) < 1 by omega, show (0 : Nat) < 2 by omega, show (0 : Nat) < 16 by omega]
        refine nx3 _ _ _ (by omega) (fun y hy => by simp only [go_sem, show ∀ j, ¬ y = n1 + j from fun j => by omega]; exact k8 y hy) (by simp only [go_sem, zn, k9]) (by simp only [go_sem, zm, k10]) (by simp only [go_sem, zp, k11]) (by simp only [go_sem, hn]) (by simp only [go_sem]) (.inr ⟨n1 + 18, by rw [w0]; rfl, by omega, by omega, by rw [hML, w0]; simp only [go_sem]; rfl⟩) (fun b len hb => by cases hb; omega) k14 k15 k16 k17 rfl rfl
      · have zb : ∀ j, ¬ b = n1 + j := fun j => by omega
        have hbm : ¬ b = mb := fun e => by rw [e, k10] at w3; cases w3
        have hbp2 : b ≠ bp := k13 b _ w5
        simp only [go_sem, w5, w3, zb, Nat.lt_irrefl, and_false, if_false, ne_eq, not_false_eq_true, Int.reduceEq, show (0 : Nat) < 1 by omega, show (0 : Nat) < 2 by omega, show (0 : Nat) < 16 by omega, show (M.length + 1) * 16 ≤ 140737488355328 by omega]
        refine nx3 _ _ _ (by omega) (fun y hy => by simp only [go_sem, show ∀ j, ¬ y = n1 + j from fun j => by omega, show ¬ y = b by omega]; exact k8 y hy) (by simp only [go_sem, zn, show ¬ n = b by omega, k9]) (by simp only [go_sem, zm, show ¬ mb = b from fun e => hbm e.symm, k10]) (by simp only [go_sem, zp, show ¬ bp = b from fun e => hbp2 e.symm, k11]) (by simp only [go_sem, show ¬ n1 + 4 = b by omega, hn]) (by simp only [go_sem, show ¬ n1 + 13 = b by omega]) (.inr ⟨n1 + 18, by rw [List.length_append]; rfl, by omega, by omega, by rw [hML]; simp only [go_sem]⟩) (fun b len hb => by cases hb; omega) k14 k15 k16 k17 rfl rfl
    · refine W.exit ?_
      simp only [go_sem]
      have hk : k = p.right.length := by simp at hc2; omega
      subst hk
      rw [List.drop_length, stepsP, List.append_nil] at k5
      exact nx _ _ _ M _ (by omega) (by omega) k5 k6 k7 (fun x hx => k8 x hx) k9 k10 (k12.next rfl (fun x hx hx' => rfl) (by omega) (Nat.le_refl _)) k14 k15
  · refine W.exit ?_
    simp only [go_sem]
    have hi : i = g.prods.length := by simp at hc; omega
    subst hi
    have hz : g.prods.zipIdx.drop g.prods.length = [] := List.drop_eq_nil_of_le (by simp)
    rw [hz, stepsF, List.flatMap_nil, List.append_nil] at i5
    refine W.rseq (k := 4) rfl fun K hK => ?_
    simp only [go_sem, a6]
    refine hK _ _ _ ?_
    clear hK K
    refine W.ret ?_
    simp only [go_sem]
    refine ⟨by omega, fun x hx => i8 x hx, _, mb, rfl, by omega, by omega, by rw [i10, i5], by rw [← i5]; exact i7, by rw [← i5]; omega, ?_⟩
    rw [← i5]
    exact i11.next rfl (fun x hx hx' => rfl) (by omega) (by omega)

end Go.Av

