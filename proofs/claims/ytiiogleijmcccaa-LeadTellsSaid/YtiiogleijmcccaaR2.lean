/-
  Layer 10, package reach: round by round. Conditions: none.
-/
import Derived.Test.YtiiogleijmcccaaR1
namespace Go.Av
open Go.Proofs
set_option maxRecDepth 100000
set_option linter.unusedSimpArgs false
set_option linter.unusedVariables false

def reachS (rank : Int) (i : Nat) (s : List Fc × Bool) (y : Sy) : List Fc × Bool := if y.non = true ∧ rk s.1 y.n = 0 then (s.1.set y.n.toNat (rank + 1, (i : Int)), true) else s

def reachP (rank : Int) (s : List Fc × Bool) (x : Pr × Nat) : List Fc × Bool := if rk s.1 x.1.left = rank then x.1.right.foldl (reachS rank x.2) s else s

def reachR (g : Gr) (rank : Int) (l : List Fc) : List Fc × Bool := g.prods.zipIdx.foldl (reachP rank) (l, false)

def reachLoop (g : Gr) : Nat → Int → List Fc → List Fc
  | 0, _, l => l
  | f + 1, rank, l => if (reachR g rank l).2 then reachLoop g f (rank + 1) (reachR g rank l).1 else (reachR g rank l).1

def reachI (g : Gr) : List Fc := (List.replicate g.nons.toNat (0, 0)).set g.start.toNat (1, 0)

def reachL (g : Gr) : List Fc := if right g then reachLoop g (g.nons.toNat + 1) 1 (reachI g) else []

theorem reachS_len {rank : Int} {i : Nat} {s : List Fc × Bool} {y : Sy} : (reachS rank i s y).1.length = s.1.length := by
  unfold reachS; split <;> simp

theorem foldS_len {rank : Int} {i : Nat} : ∀ (l : List Sy) (s : List Fc × Bool), (l.foldl (reachS rank i) s).1.length = s.1.length
  | [], s => rfl
  | y :: l, s => by rw [List.foldl_cons, foldS_len l, reachS_len]

theorem reachP_len {rank : Int} {s : List Fc × Bool} {x : Pr × Nat} : (reachP rank s x).1.length = s.1.length := by
  unfold reachP; split
  · exact foldS_len _ _
  · rfl

theorem foldP_len {rank : Int} : ∀ (l : List (Pr × Nat)) (s : List Fc × Bool), (l.foldl (reachP rank) s).1.length = s.1.length
  | [], s => rfl
  | y :: l, s => by rw [List.foldl_cons, foldP_len l, reachP_len]

theorem reachR_len {g : Gr} {rank : Int} {l : List Fc} : (reachR g rank l).1.length = l.length := foldP_len _ _

theorem reachI_len {g : Gr} : (reachI g).length = g.nons.toNat := by simp [reachI]

/-- No more zeros than before; fewer, if something was set. -/
def Less (s s' : List Fc × Bool) : Prop := zeros s'.1 ≤ zeros s.1 ∧ (s.2 = false → s'.2 = true → zeros s'.1 < zeros s.1)

theorem Less.trans {a b c : List Fc × Bool} (h : Less a b) (k : Less b c) : Less a c := by
  refine ⟨Nat.le_trans k.1 h.1, fun h1 h2 => ?_⟩
  cases hb : b.2 with
  | false => have := k.2 hb h2; have := h.1; omega
  | true => have := h.2 h1 hb; have := k.1; omega

theorem Less.rfl' (s : List Fc × Bool) : Less s s := ⟨Nat.le_refl _, fun h1 h2 => by rw [h1] at h2; cases h2⟩

theorem reachS_less {rank : Int} (hr : 1 ≤ rank) {i : Nat} {s : List Fc × Bool} {y : Sy} (hy : y.non = true → 0 ≤ y.n ∧ y.n < s.1.length) : Less s (reachS rank i s y) := by
  unfold reachS
  split
  · rename_i c
    have := zeros_set (f := (rank + 1, (i : Int))) (hy c.1).1 (hy c.1).2 c.2 (by simp only; omega)
    exact ⟨by simp only; omega, fun _ _ => this⟩
  · exact Less.rfl' s

theorem foldS_less {rank : Int} (hr : 1 ≤ rank) {i : Nat} : ∀ (l : List Sy) (s : List Fc × Bool), (∀ y ∈ l, y.non = true → 0 ≤ y.n ∧ y.n < s.1.length) → Less s (l.foldl (reachS rank i) s)
  | [], s, _ => Less.rfl' s
  | y :: l, s, h => (reachS_less hr (h y (by simp))).trans (foldS_less hr l _ fun z hz => by rw [reachS_len]; exact h z (by simp [hz]))

theorem reachP_less {rank : Int} (hr : 1 ≤ rank) {s : List Fc × Bool} {x : Pr × Nat} (h : ∀ y ∈ x.1.right, y.non = true → 0 ≤ y.n ∧ y.n < s.1.length) : Less s (reachP rank s x) := by
  unfold reachP
  split
  · exact foldS_less hr _ s h
  · exact Less.rfl' s

theorem foldP_less {rank : Int} (hr : 1 ≤ rank) : ∀ (l : List (Pr × Nat)) (s : List Fc × Bool), (∀ x ∈ l, ∀ y ∈ x.1.right, y.non = true → 0 ≤ y.n ∧ y.n < s.1.length) → Less s (l.foldl (reachP rank) s)
  | [], s, _ => Less.rfl' s
  | x :: l, s, h => (reachP_less hr (h x (by simp))).trans (foldP_less hr l _ fun z hz => by rw [reachP_len]; exact h z (by simp [hz]))

theorem reachR_zeros {g : Gr} {rank : Int} {l : List Fc} (hr : 1 ≤ rank) (hl : g.In l) (h : (reachR g rank l).2 = true) : zeros (reachR g rank l).1 < zeros l :=
  (foldP_less hr g.prods.zipIdx (l, false) fun x hx => (hl x.1 (mem_zipIdx hx)).2).2 rfl h

theorem f38 (g : Gr) (hg : g.Small) : FH pg Tq 38 [.agg (eGr g)] h0 0 fun r h _ => OwnFc (reachL g) r h := by
  have hg1 : g.prods.length < 2 ^ 60 := hg.1
  refine FH.of (N := 70) (rs := #[.tmp 2]) Try.func38 rfl rfl (of_decide_eq_true rfl) rfl (by decide) ?_
  refine W.rseq (k := 2) rfl fun K hK => ?_
  simp only [go_sem]
  refine hK _ _ _ ?_
  clear hK K
  refine W.scope (WS.code ?_)
  refine W.seq ?_
  refine W.rseq (k := 3) rfl fun K hK => ?_
  simp only [go_sem]
  refine VCall.frz 6 (f87 g hg) rfl ?_
  try simp only [go_sem]
  refine hK _ _ _ ?_
  clear hK K
  cases hr : right g
  · refine W.condT (by simp only [go_sem]) ?_
    refine W.rseq (k := 1) rfl fun K hK => ?_
    simp only [go_sem]
    refine hK _ _ _ ?_
    clear hK K
    refine W.ret ?_
    simp only [go_sem]
    exact .inl ⟨by simp [reachL, hr], .inl rfl⟩
  refine W.condF (by simp only [go_sem]) ?_
  refine W.skip ?_
  simp only [go_sem]
  obtain ⟨⟨hn1, hn2⟩, _, ⟨hs1, hs2⟩, hp60, hright⟩ := right_in hr
  refine W.rseq (k := 4) rfl fun K hK => ?_
  simp only [go_sem, show (0 : Int) ≤ g.nons by omega, show g.nons * 16 ≤ 140737488355328 by omega, show (0 : Nat) < 16 by omega, show (0 : Nat) < 2 by omega]
  refine hK _ _ _ ?_
  clear hK K
  have hrep : List.replicate g.nons.toNat [AV.int .i64 0, AV.int .i64 0] = (List.replicate g.nons.toNat ((0, 0) : Fc)).map eFc := by simp [eFc]
  have hget : (List.replicate g.nons.toNat ((0, 0) : Fc))[g.start.toNat]? = some (0, 0) := by
    rw [List.getElem?_replicate, if_pos (by omega)]
  refine W.rseq (k := 6) rfl fun K hK => ?_
  simp only [go_sem, hrep, hget, hs1, show g.start < ((g.nons.toNat : Nat) : Int) by omega, show g.start.toNat < g.nons.toNat by omega, List.length_map, List.length_replicate]
  refine hK _ _ _ ?_
  clear hK K
  refine W.seq ?_
  refine W.label ?_
  simp only [go_sem]
  refine W.seq ?_
  refine W.rseq (k := 1) rfl fun K hK => ?_
  simp only [go_sem]
  refine hK _ _ _ ?_
  clear hK K
  have hIn0 : ∀ l : List Fc, l.length = g.nons.toNat → g.In l := fun l hl => right_In hr (by omega)
  obtain ⟨bl, hbl⟩ : ∃ bl, bl = 7 := ⟨_, rfl⟩
  refine W.block (W.while (fun m t h n => ∃ (l : List Fc) (rank : Int), l.length = g.nons.toNat ∧ 1 ≤ rank ∧ rank + m ≤ 26 ∧ zeros l < m ∧ reachLoop g m rank l = reachLoop g (g.nons.toNat + 1) 1 (reachI g) ∧ bl < n ∧ t 1 = .ptr 0 0 0 ∧ t 3 = .sl bl 0 l.length 2 ∧ t 4 = .int .i64 rank ∧
      h 0 = some (.cells [eGr g]) ∧ h bl = some (.cells (l.map eFc))) (g.nons.toNat + 1)
    ⟨reachI g, 1, reachI_len, by omega, by omega, Nat.lt_succ_of_le (by unfold zeros; exact Nat.le_trans List.countP_le_length (by rw [reachI_len]; exact Nat.le_refl _)), rfl, by omega, rfl, by rw [reachI_len, hbl]; rfl, rfl, by simp only [go_sem], by simp only [go_sem, hbl, reachI, List.map_set]⟩ fun m t h n ⟨l, rank, i1, i2, i3, i4, i5, i6, i7, i8, i9, i10, i11⟩ => ?_)
  have hIn : g.In l := hIn0 l i1
  refine W.seq (W.block ?_)
  refine W.rseq (k := 1) rfl fun K hK => ?_
  simp only [go_sem]
  refine hK _ _ _ ?_
  clear hK K
  refine W.seq ?_
  refine W.rseq (k := 4) rfl fun K hK => ?_
  simp only [go_sem, i7, i10]
  refine hK _ _ _ ?_
  clear hK K
  refine W.block (W.while (fun m2 t h n => ∃ k : Nat, m2 = g.prods.length - k ∧ k ≤ g.prods.length ∧ bl < n ∧ t 1 = .ptr 0 0 0 ∧ t 3 = .sl bl 0 l.length 2 ∧ t 4 = .int .i64 rank ∧ t 24 = .ro (g.prods.map ePr) ∧ t 25 = .int .i64 g.prods.length ∧ t 26 = .int .i64 k ∧
      t 5 = .bool ((g.prods.zipIdx.take k).foldl (reachP rank) (l, false)).2 ∧ h 0 = some (.cells [eGr g]) ∧ h bl = some (.cells (((g.prods.zipIdx.take k).foldl (reachP rank) (l, false)).1.map eFc))) g.prods.length
    ⟨0, by simp, by simp, by omega, i7, i8, i9, rfl, rfl, rfl, rfl, by simp only [go_sem, i10], by simp only [go_sem, i11]; rfl⟩ fun m2 t h n ⟨k, j1, j2, j3, j4, j5, j6, j7, j8, j9, j10, j11, j12⟩ => ?_)
  refine W.rseq (k := 1) rfl fun K hK => ?_
  simp only [go_sem, j8, j9]
  refine hK _ _ _ ?_
  clear hK K
  refine W.seq ?_
  refine W.cond rfl (fun hc => ?_) fun hc => ?_
  · refine W.skip ?_
    simp only [go_sem]
    have hk : k < g.prods.length := by simp at hc; omega
    obtain ⟨p, hp⟩ := get_some hk
    have hm : p ∈ g.prods := List.mem_of_getElem? hp
    obtain ⟨⟨hl0, hl1⟩, hin⟩ := hIn p hm
    have hz : g.prods.zipIdx[k]? = some (p, k) := by simp [List.getElem?_zipIdx, hp]
    have hfold : (g.prods.zipIdx.take (k + 1)).foldl (reachP rank) (l, false) = reachP rank ((g.prods.zipIdx.take k).foldl (reachP rank) (l, false)) (p, k) := by
      rw [List.take_add_one, hz, List.foldl_append]; rfl
    have hlen : ((g.prods.zipIdx.take k).foldl (reachP rank) (l, false)).1.length = l.length := foldP_len _ _
    generalize hs : (g.prods.zipIdx.take k).foldl (reachP rank) (l, false) = s at *
    obtain ⟨b, hb⟩ := fc_get hl0 (show p.left < s.1.length by rw [hlen]; exact hl1)
    refine W.seq (W.block ?_)
    refine W.rseq (k := 6) rfl fun K hK => ?_
    simp only [go_sem, j7, j9, hp]
    refine hK _ _ _ ?_
    clear hK K
    refine W.seq ?_
    refine W.rseq (k := 8) rfl fun K hK => ?_
    simp only [go_sem, j5, j6, j12, hl0, hl1, hb, show ∀ i, ¬ (bl = n + i) from fun i => by omega]
    refine hK _ _ _ ?_
    clear hK K
    refine W.cond rfl (fun hc2 => ?_) fun hc2 => ?_
    · refine W.exit ?_
      simp only [go_sem]
      refine W.region (k := 2) rfl ?_
      simp only [go_sem, j9]
      have hst : reachP rank s (p, k) = s := by
        have : ¬ rk s.1 p.left = rank := by simpa using hc2
        simp only [reachP, this, if_false]
      rw [hst] at hfold
      refine ⟨g.prods.length - (k + 1), by omega, k + 1, rfl, by omega, by omega, j4, j5, j6, j7, j8, ?_, ?_, ?_, ?_⟩
      · rw [wrap64 (by omega) (by omega)]; rfl
      · rw [hfold]; exact j10
      · simp only [go_sem, show ∀ i, ¬ (0 = n + i) from fun i => by omega, j11]
      · rw [hfold]; simp only [go_sem, show ∀ i, ¬ (bl = n + i) from fun i => by omega, j12]
    · refine W.skip ?_
      simp only [go_sem]
      have hc3 : rk s.1 p.left = rank := by simpa using hc2
      have hst : reachP rank s (p, k) = p.right.foldl (reachS rank k) s := by simp only [reachP, hc3, if_true]
      have hpr : p.right.length < 2 ^ 60 := hg.2 p hm
      rw [hst] at hfold
      refine W.rseq (k := 4) rfl fun K hK => ?_
      simp only [go_sem]
      refine hK _ _ _ ?_
      clear hK K
      refine W.block (W.while (fun m3 t h n => ∃ q : Nat, m3 = p.right.length - q ∧ q ≤ p.right.length ∧ bl < n ∧ t 1 = .ptr 0 0 0 ∧ t 3 = .sl bl 0 l.length 2 ∧ t 4 = .int .i64 rank ∧ t 24 = .ro (g.prods.map ePr) ∧ t 25 = .int .i64 g.prods.length ∧ t 26 = .int .i64 k ∧ t 6 = .int .i64 k ∧
          t 40 = .ro (p.right.map eSy) ∧ t 41 = .int .i64 p.right.length ∧ t 42 = .int .i64 q ∧ t 5 = .bool ((p.right.take q).foldl (reachS rank k) s).2 ∧ h 0 = some (.cells [eGr g]) ∧ h bl = some (.cells (((p.right.take q).foldl (reachS rank k) s).1.map eFc))) p.right.length
        ⟨0, by simp, by simp, by omega, j4, j5, j6, j7, j8, j9, rfl, rfl, rfl, rfl, j10, by simp only [go_sem, show ∀ i, ¬ (0 = n + i) from fun i => by omega, j11], by simp only [go_sem, show ∀ i, ¬ (bl = n + i) from fun i => by omega, j12]; rfl⟩ fun m3 t h n ⟨q, k1, k2, k3, k4, k5, k6, k7, k8, k9, k10, k11, k12, k13, k14, k15, k16⟩ => ?_)
      refine W.rseq (k := 1) rfl fun K hK => ?_
      simp only [go_sem, k12, k13]
      refine hK _ _ _ ?_
      clear hK K
      refine W.seq ?_
      refine W.cond rfl (fun hc4 => ?_) fun hc4 => ?_
      · refine W.skip ?_
        simp only [go_sem]
        have hq : q < p.right.length := by simp at hc4; omega
        obtain ⟨y, hy⟩ := get_some hq
        have hym : y ∈ p.right := List.mem_of_getElem? hy
        have hf2 : (p.right.take (q + 1)).foldl (reachS rank k) s = reachS rank k ((p.right.take q).foldl (reachS rank k) s) y := by
          rw [List.take_add_one, hy, List.foldl_append]; rfl
        have hlen2 : ((p.right.take q).foldl (reachS rank k) s).1.length = l.length := (foldS_len _ _).trans hlen
        generalize hs2 : (p.right.take q).foldl (reachS rank k) s = s2 at *
        refine W.seq (W.block ?_)
        refine W.rseq (k := 4) rfl fun K hK => ?_
        simp only [go_sem, k11, k13, hy]
        refine hK _ _ _ ?_
        clear hK K
        refine W.rseq (k := 11) rfl fun K hK => ?_
        have no : ∀ (t' : Fr) (h' : Heap) (n' : Nat), ¬ (y.non = true ∧ rk s2.1 y.n = 0) → bl < n' → t' 56 = .bool false → t' 1 = .ptr 0 0 0 → t' 3 = .sl bl 0 l.length 2 → t' 4 = .int .i64 rank → t' 24 = .ro (g.prods.map ePr) → t' 25 = .int .i64 g.prods.length → t' 26 = .int .i64 k → t' 6 = .int .i64 k →
            t' 40 = .ro (p.right.map eSy) → t' 41 = .int .i64 p.right.length → t' 42 = .int .i64 q → t' 5 = .bool s2.2 → h' 0 = some (.cells [eGr g]) → h' bl = some (.cells (s2.1.map eFc)) → K t' h' n' := by
          intro t' h' n' hno y0 y56 y1 y3 y4 y24 y25 y26 y6 y40 y41 y42 y5 yh0 yh7
          have hst2 : reachS rank k s2 y = s2 := by simp only [reachS, hno, if_false]
          rw [hst2] at hf2
          refine hK _ _ _ ?_
          clear hK K
          refine W.condF (by simp only [go_sem, y56]) ?_
          refine W.skip ?_
          simp only [go_sem]
          refine W.region (k := 2) rfl ?_
          simp only [go_sem, y42]
          refine ⟨p.right.length - (q + 1), by omega, q + 1, rfl, by omega, by omega, y1, y3, y4, y24, y25, y26, y6, y40, y41, ?_, ?_, yh0, ?_⟩
          · rw [wrap64 (by omega) (by omega)]; rfl
          · rw [hf2]; exact y5
          · rw [hf2]; exact yh7
        have z0 : ∀ i, ¬ (0 = n + i) := fun i => by omega
        have z7 : ∀ i, ¬ (bl = n + i) := fun i => by omega
        cases hyn : y.non
        · simp only [go_sem, hyn]
          exact no _ _ _ (by simp [hyn]) (by omega) rfl k4 k5 k6 k7 k8 k9 k10 k11 k12 k13 k14 (by simp only [go_sem, z0, k15]) (by simp only [go_sem, z7, k16])
        · have hyb := hin y hym hyn
          obtain ⟨b2, hb2⟩ := fc_get hyb.1 (show y.n < s2.1.length by rw [hlen2]; exact hyb.2)
          simp only [go_sem, hyn, k5, hyb.1, hyb.2, z7, k16, hb2]
          by_cases c1 : rk s2.1 y.n = 0
          · have hst2 : reachS rank k s2 y = (s2.1.set y.n.toNat (rank + 1, (k : Int)), true) := by simp only [reachS, hyn, c1, and_self, if_true]
            rw [hst2] at hf2
            have hwr : IntKind.wrap .i64 (rank + 1) = rank + 1 := wrap64 (by omega) (by omega)
            clear no
            refine hK _ _ _ ?_
            clear hK K
            refine W.condT (by simp only [go_sem, c1]) ?_
            refine W.rseq (k := 9) rfl fun K hK => ?_
            simp only [go_sem, k5, k6, k10, hwr, hyb.1, hyb.2, z7, k16, hb2]
            refine hK _ _ _ ?_
            clear hK K
            refine W.region (k := 1) rfl ?_
            simp only [go_sem]
            refine W.region (k := 2) rfl ?_
            simp only [go_sem, k13]
            refine ⟨p.right.length - (q + 1), by omega, q + 1, rfl, by omega, by omega, k4, k5, k6, k7, k8, k9, k10, k11, k12, ?_, ?_, ?_, ?_⟩
            · rw [wrap64 (by omega) (by omega)]; rfl
            · rw [hf2]
            · simp only [go_sem, z0, k15, show ¬ 0 = bl by omega]
            · simp only [go_sem, hf2, List.map_set]
          · exact no _ _ _ (by simp [c1]) (by omega) (by simp only [go_sem, c1]) k4 k5 k6 k7 k8 k9 k10 k11 k12 k13 k14 (by simp only [go_sem, z0, k15]) (by simp only [go_sem, z7, k16])
      · refine W.exit ?_
        simp only [go_sem]
        have hq : ¬ q < p.right.length := by simp at hc4; omega
        rw [List.take_of_length_le (by omega)] at k14 k16
        refine W.region (k := 2) rfl ?_
        simp only [go_sem, k9]
        refine ⟨g.prods.length - (k + 1), by omega, k + 1, rfl, by omega, by omega, k4, k5, k6, k7, k8, ?_, ?_, k15, ?_⟩
        · rw [wrap64 (by omega) (by omega)]; rfl
        · rw [hfold]; exact k14
        · rw [hfold]; exact k16
  · refine W.exit ?_
    simp only [go_sem]
    have hk : ¬ k < g.prods.length := by simp at hc; omega
    have e : (g.prods.zipIdx.take k).foldl (reachP rank) (l, false) = reachR g rank l := by rw [List.take_of_length_le (by simp; omega)]; rfl
    rw [e] at j10 j12
    obtain ⟨m', rfl⟩ : ∃ m', m = m' + 1 := ⟨m - 1, by omega⟩
    rw [reachLoop] at i5
    refine W.rseq (k := 2) rfl fun K hK => ?_
    simp only [go_sem, j10]
    refine hK _ _ _ ?_
    clear hK K
    cases hmo : (reachR g rank l).2
    · refine W.condT (by simp only [go_sem]) ?_
      refine W.exit ?_
      simp only [go_sem]
      refine W.rseq (k := 2) rfl fun K hK => ?_
      simp only [go_sem, j5]
      refine hK _ _ _ ?_
      clear hK K
      refine W.ret ?_
      simp only [go_sem]
      rw [hmo, if_neg (by simp)] at i5
      have : reachL g = (reachR g rank l).1 := by rw [reachL, hr, if_pos rfl, ← i5]
      rw [this]
      exact .inr ⟨bl, by rw [reachR_len], j12⟩
    · refine W.condF (by simp only [go_sem]) ?_
      refine W.skip ?_
      simp only [go_sem]
      rw [hmo, if_pos rfl] at i5
      have hz := reachR_zeros i2 hIn hmo
      refine W.region (k := 3) rfl ?_
      simp only [go_sem, j6]
      refine ⟨m', by omega, (reachR g rank l).1, rank + 1, by rw [reachR_len]; exact i1, by omega, by omega, by omega, i5, by omega, j4, ?_, ?_, j11, j12⟩
      · rw [reachR_len]; exact j5
      · rw [wrap64 (by omega) (by omega)]

end Go.Av

