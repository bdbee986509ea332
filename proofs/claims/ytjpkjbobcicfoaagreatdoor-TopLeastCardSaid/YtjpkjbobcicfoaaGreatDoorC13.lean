/-
  Layer 13, the plain law: steps at the left. Conditions: none.
-/
import Derived.Test.YtjpkjbobcicfoaaGreatDoorG1
import Derived.Test.YtjpkjbobcicfoaaGreatDoorCC
set_option linter.unusedSimpArgs false
set_option linter.unusedVariables false
namespace Go.Av
open Go.Proofs
set_option maxRecDepth 100000
def reachS (rank : Int) (i : Nat) (s : List Fc × Bool) (y : Sy) : List Fc × Bool := if y.non = true ∧ rk s.1 y.n = 0 then (s.1.set y.n.toNat (rank + 1, (i : Int)), true) else s
def reachP (rank : Int) (s : List Fc × Bool) (x : Pr × Nat) : List Fc × Bool := if rk s.1 x.1.left = rank then x.1.right.foldl (reachS rank x.2) s else s
def reachR (g : Gr) (rank : Int) (l : List Fc) : List Fc × Bool := g.prods.zipIdx.foldl (reachP rank) (l, false)
def reachLoop (g : Gr) : Nat → Int → List Fc → List Fc
  | 0, _, l => l
  | f + 1, rank, l => if (reachR g rank l).2 then reachLoop g f (rank + 1) (reachR g rank l).1 else (reachR g rank l).1
def reachI (g : Gr) : List Fc := (List.replicate g.nons.toNat (0, 0)).set g.start.toNat (1, 0)
def reachL (g : Gr) : List Fc := if right g then reachLoop g (g.nons.toNat + 1) 1 (reachI g) else []
theorem reachS_len {rank : Int} {i : Nat} {s : List Fc × Bool} {y : Sy} : (reachS rank i s y).1.length = s.1.length := by
  unfold reachS; split <;> simp
theorem foldS_len {rank : Int} {i : Nat} : ∀ (l : List Sy) (s : List Fc × Bool), (l.foldl (reachS rank i) s).1.length = s.1.length
  | [], s => rfl
  | y :: l, s => by rw [List.foldl_cons, foldS_len l, reachS_len]
theorem reachP_len {rank : Int} {s : List Fc × Bool} {x : Pr × Nat} : (reachP rank s x).1.length = s.1.length := by
  unfold reachP; split
  · exact foldS_len _ _
  · rfl
theorem foldP_len {rank : Int} : ∀ (l : List (Pr × Nat)) (s : List Fc × Bool), (l.foldl (reachP rank) s).1.length = s.1.length
  | [], s => rfl
  | y :: l, s => by rw [List.foldl_cons, foldP_len l, reachP_len]
theorem reachR_len {g : Gr} {rank : Int} {l : List Fc} : (reachR g rank l).1.length = l.length := foldP_len _ _
theorem reachI_len {g : Gr} : (reachI g).length = g.nons.toNat := by simp [reachI]
def Less (s s' : List Fc × Bool) : Prop := zeros s'.1 ≤ zeros s.1 ∧ (s.2 = false → s'.2 = true → zeros s'.1 < zeros s.1)
theorem Less.trans {a b c : List Fc × Bool} (h : Less a b) (k : Less b c) : Less a c := by
  refine ⟨Nat.le_trans k.1 h.1, fun h1 h2 => ?_⟩
  cases hb : b.2 with
  | false => have := k.2 hb h2; have := h.1; omega
  | true => have := h.2 h1 hb; have := k.1; omega
theorem Less.rfl' (s : List Fc × Bool) : Less s s := ⟨Nat.le_refl _, fun h1 h2 => by rw [h1] at h2; cases h2⟩
theorem reachS_less {rank : Int} (hr : 1 ≤ rank) {i : Nat} {s : List Fc × Bool} {y : Sy} (hy : y.non = true → 0 ≤ y.n ∧ y.n < s.1.length) : Less s (reachS rank i s y) := by
  unfold reachS
  split
  · rename_i c
    have := zeros_set (f := (rank + 1, (i : Int))) (hy c.1).1 (hy c.1).2 c.2 (by simp only; omega)
    exact ⟨by simp only; omega, fun _ _ => this⟩
  · exact Less.rfl' s
theorem foldS_less {rank : Int} (hr : 1 ≤ rank) {i : Nat} : ∀ (l : List Sy) (s : List Fc × Bool), (∀ y ∈ l, y.non = true → 0 ≤ y.n ∧ y.n < s.1.length) → Less s (l.foldl (reachS rank i) s)
  | [], s, _ => Less.rfl' s
  | y :: l, s, h => (reachS_less hr (h y (by simp))).trans (foldS_less hr l _ fun z hz => by rw [reachS_len]; exact h z (by simp [hz]))
theorem reachP_less {rank : Int} (hr : 1 ≤ rank) {s : List Fc × Bool} {x : Pr × Nat} (h : ∀ y ∈ x.1.right, y.non = true → 0 ≤ y.n ∧ y.n < s.1.length) : Less s (reachP rank s x) := by
  unfold reachP
  split
  · exact foldS_less hr _ s h
  · exact Less.rfl' s
theorem foldP_less {rank : Int} (hr : 1 ≤ rank) : ∀ (l : List (Pr × Nat)) (s : List Fc × Bool), (∀ x ∈ l, ∀ y ∈ x.1.right, y.non = true → 0 ≤ y.n ∧ y.n < s.1.length) → Less s (l.foldl (reachP rank) s)
  | [], s, _ => Less.rfl' s
  | x :: l, s, h => (reachP_less hr (h x (by simp))).trans (foldP_less hr l _ fun z hz => by rw [reachP_len]; exact h z (by simp [hz]))
theorem reachR_zeros {g : Gr} {rank : Int} {l : List Fc} (hr : 1 ≤ rank) (hl : g.In l) (h : (reachR g rank l).2 = true) : zeros (reachR g rank l).1 < zeros l :=
  (foldP_less hr g.prods.zipIdx (l, false) fun x hx => (hl x.1 (mem_zipIdx hx)).2).2 rfl h
theorem fz72 (g : Gr) (hg : g.Small) : FH pg Tq 72 [.agg (eGr g)] h0 0 fun r h _ => OwnFc (reachL g) r h := by
  have hg1 : g.prods.length < 2 ^ 60 := hg.1
  refine FH.of (N := 70) (rs := #[.tmp 2]) Tryz.func72 rfl rfl (of_decide_eq_true rfl) rfl (by decide) ?_
  refine W.rseq (k := 2) rfl fun K hK => ?_; simp only [go_sem]; refine hK _ _ _ ?_; clear hK K
  refine W.scope (WS.code ?_)
  refine W.seq ?_; refine W.rseq (k := 3) rfl fun K hK => ?_; simp only [go_sem]; refine VCall.frz 6 (fz57 g hg) rfl ?_; try simp only [go_sem]; refine hK _ _ _ ?_; clear hK K
  cases hr : right g
  · refine W.condT (by simp only [go_sem]) ?_; refine W.rseq (k := 1) rfl fun K hK => ?_; simp only [go_sem]; refine hK _ _ _ ?_; clear hK K; refine W.ret ?_; simp only [go_sem]
    exact .inl ⟨by simp [reachL, hr], .inl rfl⟩
  refine W.condF (by simp only [go_sem]) ?_; refine W.skip ?_; simp only [go_sem]
  obtain ⟨⟨hn1, hn2⟩, _, ⟨hs1, hs2⟩, hp60, hright⟩ := right_in hr
  refine W.rseq (k := 4) rfl fun K hK => ?_; simp only [go_sem, show (0 : Int) ≤ g.nons by omega, show g.nons * 16 ≤ 140737488355328 by omega, show (0 : Nat) < 16 by omega, show (0 : Nat) < 2 by omega]; refine hK _ _ _ ?_; clear hK K
  have hrep : List.replicate g.nons.toNat [AV.int .i64 0, AV.int .i64 0] = (List.replicate g.nons.toNat ((0, 0) : Fc)).map eFc := by simp [eFc]
  have hget : (List.replicate g.nons.toNat ((0, 0) : Fc))[g.start.toNat]? = some (0, 0) := by
    rw [List.getElem?_replicate, if_pos (by omega)]
  refine W.rseq (k := 6) rfl fun K hK => ?_; simp only [go_sem, hrep, hget, hs1, show g.start < ((g.nons.toNat : Nat) : Int) by omega, show g.start.toNat < g.nons.toNat by omega, List.length_map, List.length_replicate]; refine hK _ _ _ ?_; clear hK K; refine W.seq ?_
  refine W.label ?_
  simp only [go_sem]; refine W.seq ?_; refine W.rseq (k := 1) rfl fun K hK => ?_; simp only [go_sem]; refine hK _ _ _ ?_; clear hK K
  have hIn0 : ∀ l : List Fc, l.length = g.nons.toNat → g.In l := fun l hl => right_In hr (by omega)
  obtain ⟨bl, hbl⟩ : ∃ bl, bl = 7 := ⟨_, rfl⟩
  refine W.block (W.while (fun m t h n => ∃ (l : List Fc) (rank : Int), l.length = g.nons.toNat ∧ 1 ≤ rank ∧ rank + m ≤ 26 ∧ zeros l < m ∧ reachLoop g m rank l = reachLoop g (g.nons.toNat + 1) 1 (reachI g) ∧ bl < n ∧ t 1 = .ptr 0 0 0 ∧ t 3 = .sl bl 0 l.length 2 ∧ t 4 = .int .i64 rank ∧
      h 0 = some (.cells [eGr g]) ∧ h bl = some (.cells (l.map eFc))) (g.nons.toNat + 1)
    ⟨reachI g, 1, reachI_len, by omega, by omega, Nat.lt_succ_of_le (by unfold zeros; exact Nat.le_trans List.countP_le_length (by rw [reachI_len]; exact Nat.le_refl _)), rfl, by omega, rfl, by rw [reachI_len, hbl]; rfl, rfl, by simp only [go_sem], by simp only [go_sem, hbl, reachI, List.map_set]⟩ fun m t h n ⟨l, rank, i1, i2, i3, i4, i5, i6, i7, i8, i9, i10, i11⟩ => ?_)
  have hIn : g.In l := hIn0 l i1
  refine W.seq (W.block ?_)
  refine W.rseq (k := 1) rfl fun K hK => ?_; simp only [go_sem]; refine hK _ _ _ ?_; clear hK K; refine W.seq ?_; refine W.rseq (k := 4) rfl fun K hK => ?_; simp only [go_sem, i7, i10]; refine hK _ _ _ ?_; clear hK K
  refine W.block (W.while (fun m2 t h n => ∃ k : Nat, m2 = g.prods.length - k ∧ k ≤ g.prods.length ∧ bl < n ∧ t 1 = .ptr 0 0 0 ∧ t 3 = .sl bl 0 l.length 2 ∧ t 4 = .int .i64 rank ∧ t 24 = .ro (g.prods.map ePr) ∧ t 25 = .int .i64 g.prods.length ∧ t 26 = .int .i64 k ∧
      t 5 = .bool ((g.prods.zipIdx.take k).foldl (reachP rank) (l, false)).2 ∧ h 0 = some (.cells [eGr g]) ∧ h bl = some (.cells (((g.prods.zipIdx.take k).foldl (reachP rank) (l, false)).1.map eFc))) g.prods.length
    ⟨0, by simp, by simp, by omega, i7, i8, i9, rfl, rfl, rfl, rfl, by simp only [go_sem, i10], by simp only [go_sem, i11]; rfl⟩ fun m2 t h n ⟨k, j1, j2, j3, j4, j5, j6, j7, j8, j9, j10, j11, j12⟩ => ?_)
  refine W.rseq (k := 1) rfl fun K hK => ?_; simp only [go_sem, j8, j9]; refine hK _ _ _ ?_; clear hK K; refine W.seq ?_
  refine W.cond rfl (fun hc => ?_) fun hc => ?_
  · refine W.skip ?_; simp only [go_sem]
    have hk : k < g.prods.length := by simp at hc; omega
    obtain ⟨p, hp⟩ := get_some hk
    have hm : p ∈ g.prods := List.mem_of_getElem? hp
    obtain ⟨⟨hl0, hl1⟩, hin⟩ := hIn p hm
    have hz : g.prods.zipIdx[k]? = some (p, k) := by simp [List.getElem?_zipIdx, hp]
    have hfold : (g.prods.zipIdx.take (k + 1)).foldl (reachP rank) (l, false) = reachP rank ((g.prods.zipIdx.take k).foldl (reachP rank) (l, false)) (p, k) := by
      rw [List.take_add_one, hz, List.foldl_append]; rfl
    have hlen : ((g.prods.zipIdx.take k).foldl (reachP rank) (l, false)).1.length = l.length := foldP_len _ _
    generalize hs : (g.prods.zipIdx.take k).foldl (reachP rank) (l, false) = s at *
    obtain ⟨b, hb⟩ := fc_get hl0 (show p.left < s.1.length by rw [hlen]; exact hl1)
    refine W.seq (W.block ?_)
    refine W.rseq (k := 6) rfl fun K hK => ?_; simp only [go_sem, j7, j9, hp]; refine hK _ _ _ ?_; clear hK K; refine W.seq ?_; refine W.rseq (k := 8) rfl fun K hK => ?_; simp only [go_sem, j5, j6, j12, hl0, hl1, hb, show ∀ i, ¬ (bl = n + i) from fun i => by omega]; refine hK _ _ _ ?_; clear hK K
    refine W.cond rfl (fun hc2 => ?_) fun hc2 => ?_
    · refine W.exit ?_; simp only [go_sem]; refine W.region (k := 2) rfl ?_; simp only [go_sem, j9]
      have hst : reachP rank s (p, k) = s := by
        have : ¬ rk s.1 p.left = rank := by simpa using hc2
        simp only [reachP, this, if_false]
      rw [hst] at hfold
      refine ⟨g.prods.length - (k + 1), by omega, k + 1, rfl, by omega, by omega, j4, j5, j6, j7, j8, ?_, ?_, ?_, ?_⟩
      · rw [wrap64 (by omega) (by omega)]; rfl
      · rw [hfold]; exact j10
      · simp only [go_sem, show ∀ i, ¬ (0 = n + i) from fun i => by omega, j11]
      · rw [hfold]; simp only [go_sem, show ∀ i, ¬ (bl = n + i) from fun i => by omega, j12]
    · refine W.skip ?_; simp only [go_sem]
      have hc3 : rk s.1 p.left = rank := by simpa using hc2
      have hst : reachP rank s (p, k) = p.right.foldl (reachS rank k) s := by simp only [reachP, hc3, if_true]
      have hpr : p.right.length < 2 ^ 60 := hg.2 p hm
      rw [hst] at hfold
      refine W.rseq (k := 4) rfl fun K hK => ?_; simp only [go_sem]; refine hK _ _ _ ?_; clear hK K
      refine W.block (W.while (fun m3 t h n => ∃ q : Nat, m3 = p.right.length - q ∧ q ≤ p.right.length ∧ bl < n ∧ t 1 = .ptr 0 0 0 ∧ t 3 = .sl bl 0 l.length 2 ∧ t 4 = .int .i64 rank ∧ t 24 = .ro (g.prods.map ePr) ∧ t 25 = .int .i64 g.prods.length ∧ t 26 = .int .i64 k ∧ t 6 = .int .i64 k ∧
          t 40 = .ro (p.right.map eSy) ∧ t 41 = .int .i64 p.right.length ∧ t 42 = .int .i64 q ∧ t 5 = .bool ((p.right.take q).foldl (reachS rank k) s).2 ∧ h 0 = some (.cells [eGr g]) ∧ h bl = some (.cells (((p.right.take q).foldl (reachS rank k) s).1.map eFc))) p.right.length
        ⟨0, by simp, by simp, by omega, j4, j5, j6, j7, j8, j9, rfl, rfl, rfl, rfl, j10, by simp only [go_sem, show ∀ i, ¬ (0 = n + i) from fun i => by omega, j11], by simp only [go_sem, show ∀ i, ¬ (bl = n + i) from fun i => by omega, j12]; rfl⟩ fun m3 t h n ⟨q, k1, k2, k3, k4, k5, k6, k7, k8, k9, k10, k11, k12, k13, k14, k15, k16⟩ => ?_)
      refine W.rseq (k := 1) rfl fun K hK => ?_; simp only [go_sem, k12, k13]; refine hK _ _ _ ?_; clear hK K; refine W.seq ?_
      refine W.cond rfl (fun hc4 => ?_) fun hc4 => ?_
      · refine W.skip ?_; simp only [go_sem]
        have hq : q < p.right.length := by simp at hc4; omega
        obtain ⟨y, hy⟩ := get_some hq
        have hym : y ∈ p.right := List.mem_of_getElem? hy
        have hf2 : (p.right.take (q + 1)).foldl (reachS rank k) s = reachS rank k ((p.right.take q).foldl (reachS rank k) s) y := by
          rw [List.take_add_one, hy, List.foldl_append]; rfl
        have hlen2 : ((p.right.take q).foldl (reachS rank k) s).1.length = l.length := (foldS_len _ _).trans hlen
        generalize hs2 : (p.right.take q).foldl (reachS rank k) s = s2 at *
        refine W.seq (W.block ?_)
        refine W.rseq (k := 4) rfl fun K hK => ?_; simp only [go_sem, k11, k13, hy]; refine hK _ _ _ ?_; clear hK K; refine W.rseq (k := 11) rfl fun K hK => ?_
        have no : ∀ (t' : Fr) (h' : Heap) (n' : Nat), ¬ (y.non = true ∧ rk s2.1 y.n = 0) → bl < n' → t' 56 = .bool false → t' 1 = .ptr 0 0 0 → t' 3 = .sl bl 0 l.length 2 → t' 4 = .int .i64 rank → t' 24 = .ro (g.prods.map ePr) → t' 25 = .int .i64 g.prods.length → t' 26 = .int .i64 k → t' 6 = .int .i64 k →
            t' 40 = .ro (p.right.map eSy) → t' 41 = .int .i64 p.right.length → t' 42 = .int .i64 q → t' 5 = .bool s2.2 → h' 0 = some (.cells [eGr g]) → h' bl = some (.cells (s2.1.map eFc)) → K t' h' n' := by
          intro t' h' n' hno y0 y56 y1 y3 y4 y24 y25 y26 y6 y40 y41 y42 y5 yh0 yh7
          have hst2 : reachS rank k s2 y = s2 := by simp only [reachS, hno, if_false]
          rw [hst2] at hf2
          refine hK _ _ _ ?_; clear hK K; refine W.condF (by simp only [go_sem, y56]) ?_; refine W.skip ?_; simp only [go_sem]; refine W.region (k := 2) rfl ?_; simp only [go_sem, y42]
          refine ⟨p.right.length - (q + 1), by omega, q + 1, rfl, by omega, by omega, y1, y3, y4, y24, y25, y26, y6, y40, y41, ?_, ?_, yh0, ?_⟩
          · rw [wrap64 (by omega) (by omega)]; rfl
          · rw [hf2]; exact y5
          · rw [hf2]; exact yh7
        have z0 : ∀ i, ¬ (0 = n + i) := fun i => by omega
        have z7 : ∀ i, ¬ (bl = n + i) := fun i => by omega
        cases hyn : y.non
        · simp only [go_sem, hyn]
          exact no _ _ _ (by simp [hyn]) (by omega) rfl k4 k5 k6 k7 k8 k9 k10 k11 k12 k13 k14 (by simp only [go_sem, z0, k15]) (by simp only [go_sem, z7, k16])
        · have hyb := hin y hym hyn
          obtain ⟨b2, hb2⟩ := fc_get hyb.1 (show y.n < s2.1.length by rw [hlen2]; exact hyb.2)
          simp only [go_sem, hyn, k5, hyb.1, hyb.2, z7, k16, hb2]
          by_cases c1 : rk s2.1 y.n = 0
          · have hst2 : reachS rank k s2 y = (s2.1.set y.n.toNat (rank + 1, (k : Int)), true) := by simp only [reachS, hyn, c1, and_self, if_true]
            rw [hst2] at hf2
            have hwr : IntKind.wrap .i64 (rank + 1) = rank + 1 := wrap64 (by omega) (by omega)
            clear no
            refine hK _ _ _ ?_; clear hK K; refine W.condT (by simp only [go_sem, c1]) ?_; refine W.rseq (k := 9) rfl fun K hK => ?_; simp only [go_sem, k5, k6, k10, hwr, hyb.1, hyb.2, z7, k16, hb2]; refine hK _ _ _ ?_; clear hK K; refine W.region (k := 1) rfl ?_; simp only [go_sem]; refine W.region (k := 2) rfl ?_; simp only [go_sem, k13]
            refine ⟨p.right.length - (q + 1), by omega, q + 1, rfl, by omega, by omega, k4, k5, k6, k7, k8, k9, k10, k11, k12, ?_, ?_, ?_, ?_⟩
            · rw [wrap64 (by omega) (by omega)]; rfl
            · rw [hf2]
            · simp only [go_sem, z0, k15, show ¬ 0 = bl by omega]
            · simp only [go_sem, hf2, List.map_set]
          · exact no _ _ _ (by simp [c1]) (by omega) (by simp only [go_sem, c1]) k4 k5 k6 k7 k8 k9 k10 k11 k12 k13 k14 (by simp only [go_sem, z0, k15]) (by simp only [go_sem, z7, k16])
      · refine W.exit ?_; simp only [go_sem]
        have hq : ¬ q < p.right.length := by simp at hc4; omega
        rw [List.take_of_length_le (by omega)] at k14 k16
        refine W.region (k := 2) rfl ?_; simp only [go_sem, k9]
        refine ⟨g.prods.length - (k + 1), by omega, k + 1, rfl, by omega, by omega, k4, k5, k6, k7, k8, ?_, ?_, k15, ?_⟩
        · rw [wrap64 (by omega) (by omega)]; rfl
        · rw [hfold]; exact k14
        · rw [hfold]; exact k16
  · refine W.exit ?_; simp only [go_sem]
    have hk : ¬ k < g.prods.length := by simp at hc; omega
    have e : (g.prods.zipIdx.take k).foldl (reachP rank) (l, false) = reachR g rank l := by rw [List.take_of_length_le (by simp; omega)]; rfl
    rw [e] at j10 j12
    obtain ⟨m', rfl⟩ : ∃ m', m = m' + 1 := ⟨m - 1, by omega⟩
    rw [reachLoop] at i5
    refine W.rseq (k := 2) rfl fun K hK => ?_; simp only [go_sem, j10]; refine hK _ _ _ ?_; clear hK K
    cases hmo : (reachR g rank l).2
    · refine W.condT (by simp only [go_sem]) ?_; refine W.exit ?_; simp only [go_sem]; refine W.rseq (k := 2) rfl fun K hK => ?_; simp only [go_sem, j5]; refine hK _ _ _ ?_; clear hK K; refine W.ret ?_; simp only [go_sem]
      rw [hmo, if_neg (by simp)] at i5
      have : reachL g = (reachR g rank l).1 := by rw [reachL, hr, if_pos rfl, ← i5]
      rw [this]
      exact .inr ⟨bl, by rw [reachR_len], j12⟩
    · refine W.condF (by simp only [go_sem]) ?_; refine W.skip ?_; simp only [go_sem]
      rw [hmo, if_pos rfl] at i5
      have hz := reachR_zeros i2 hIn hmo
      refine W.region (k := 3) rfl ?_; simp only [go_sem, j6]
      refine ⟨m', by omega, (reachR g rank l).1, rank + 1, by rw [reachR_len]; exact i1, by omega, by omega, by omega, i5, by omega, j4, ?_, ?_, j11, j12⟩
      · rw [reachR_len]; exact j5
      · rw [wrap64 (by omega) (by omega)]
end Go.Av
namespace Go.Av
open Go.Proofs
set_option maxRecDepth 100000
def allIdx (q : Nat → Fc → Bool) (l : List Fc) : Bool := l.zipIdx.all fun x => q x.2 x.1
theorem all_true {q : Nat → Fc → Bool} {l : List Fc} (h : ∀ j f, l[j]? = some f → q j f = true) : allIdx q l = true := by
  simp only [allIdx, List.all_eq_true]; intro x hx; obtain ⟨f, j⟩ := x
  exact h j f (List.mk_mem_zipIdx_iff_getElem?.1 hx)
def showR (g : Gr) (l : List Fc) (x : Nat) (f : Fc) : Bool :=
  decide ((x : Int) = g.start) || (decide (f.1 = 0) && decide (f.2 = 0)) || (decide (1 ≤ f.1) && decide (0 ≤ f.2) && match g.prods[f.2.toNat]? with
    | some p => decide (1 ≤ rk l p.left) && decide (rk l p.left < f.1) && stands p x
    | none => false)
def Upto (q : Nat → Fc → Bool) (l : List Fc) (k : Nat) : Prop := ∀ j f, j < k → l[j]? = some f → q j f = true
theorem Upto.all {q : Nat → Fc → Bool} {l : List Fc} (h : Upto q l l.length) : allIdx q l = true := all_true fun j f hj => h j f (List.getElem?_eq_some_iff.1 hj).1 hj
theorem Upto.zero {q : Nat → Fc → Bool} {l : List Fc} : Upto q l 0 := fun j f hj => by omega
end Go.Av
namespace Go.Av
open Go.Proofs
def nextX (g : Gr) (rank : Int) (l : List Fc) (x : Nat) : Fc :=
  if rk l x = 0 then match g.prods.findIdx? (fun p => decide (rk l p.left = rank) && stands p x) with
    | some q => (rank + 1, (q : Int))
    | none => l.getD x (0, 0)
  else l.getD x (0, 0)
def nextRL (g : Gr) (rank : Int) (l : List Fc) : List Fc := (List.range l.length).map (nextX g rank l)
theorem nextRL_len {g : Gr} {rank : Int} {l : List Fc} : (nextRL g rank l).length = l.length := by simp [nextRL]
def SameAt (rank : Int) (l l' : List Fc) : Prop := ∀ n : Int, rk l' n = rank ↔ rk l n = rank
theorem same_set {rank v i : Int} {l : List Fc} {a : Nat} (h1 : 1 ≤ rank) (h0 : rk l (a : Int) = 0) (hv : v ≠ rank) : SameAt rank l (l.set a (v, i)) := by
  intro n
  rw [rk_set]
  split
  · rename_i e
    have : rk l n = 0 := by rw [← h0]; unfold rk; rw [Int.toNat_natCast, e.1]
    simp only [this]; omega
  · exact Iff.rfl
theorem foldS_at {rank : Int} (hr : 1 ≤ rank) {j : Nat} : ∀ (ys : List Sy) (s : List Fc × Bool), (∀ y ∈ ys, y.non = true → 0 ≤ y.n) →
    (∀ x, x < s.1.length → (ys.foldl (reachS rank j) s).1.getD x (0, 0) = if rk s.1 x = 0 ∧ ys.any (isN x) = true then (rank + 1, (j : Int)) else s.1.getD x (0, 0)) ∧ SameAt rank s.1 (ys.foldl (reachS rank j) s).1
  | [], s, _ => ⟨fun x hx => by simp, fun n => Iff.rfl⟩
  | y :: ys, s, h => by
    rw [List.foldl_cons]
    have hy := h y (by simp)
    by_cases c : y.non = true ∧ rk s.1 y.n = 0
    · have e : reachS rank j s y = (s.1.set y.n.toNat (rank + 1, (j : Int)), true) := by simp only [reachS, c, and_self, if_true]
      have hn : ((y.n.toNat : Nat) : Int) = y.n := by have := hy c.1; omega
      obtain ⟨ih1, ih2⟩ := foldS_at hr ys (s.1.set y.n.toNat (rank + 1, (j : Int)), true) (fun y hy => h y (by simp [hy]))
      rw [e]
      refine ⟨fun x hx => ?_, fun n => (ih2 n).trans (same_set hr (by rw [hn]; exact c.2) (by omega) n)⟩
      rw [ih1 x (by simpa using hx)]
      by_cases ex : y.n = (x : Int)
      · have ex' : y.n.toNat = x := by omega
        have r1 : rk (s.1.set y.n.toNat (rank + 1, (j : Int))) (x : Int) = rank + 1 := by rw [rk_set, if_pos ⟨by omega, by omega⟩]
        have r2 : rk s.1 (x : Int) = 0 := by rw [← ex]; exact c.2
        have r3 : (y :: ys).any (isN x) = true := by simp [isN, c.1, ex]
        rw [r1, r2, r3, if_neg (by intro h; have := h.1; omega), if_pos ⟨rfl, rfl⟩]
        simp [ex', hx, List.getD_eq_getElem?_getD]
      · have ex' : ¬ y.n.toNat = x := by omega
        have r1 : rk (s.1.set y.n.toNat (rank + 1, (j : Int))) (x : Int) = rk s.1 x := by rw [rk_set, if_neg (by omega)]
        have r3 : (y :: ys).any (isN x) = ys.any (isN x) := by simp [isN, ex]
        have r4 : (s.1.set y.n.toNat (rank + 1, (j : Int))).getD x (0, 0) = s.1.getD x (0, 0) := by simp [List.getD_eq_getElem?_getD, List.getElem?_set, ex']
        rw [r1, r3, r4]
    · have e : reachS rank j s y = s := by simp only [reachS, c, if_false]
      obtain ⟨ih1, ih2⟩ := foldS_at hr ys s (fun y hy => h y (by simp [hy]))
      rw [e]
      refine ⟨fun x hx => ?_, ih2⟩
      rw [ih1 x hx]
      by_cases hz : rk s.1 (x : Int) = 0
      · have r3 : isN x y = false := by
          unfold isN
          by_cases hn : y.non = true
          · by_cases hx : y.n = (x : Int)
            · exact (c ⟨hn, by rw [hx]; exact hz⟩).elim
            · simp [hx]
          · simp [hn]
        have r4 : (y :: ys).any (isN x) = ys.any (isN x) := by simp [r3]
        rw [r4]
      · simp [hz]
theorem foldP_at {rank : Int} (hr : 1 ≤ rank) {l : List Fc} : ∀ (ps : List Pr) (j : Nat) (s : List Fc × Bool), SameAt rank l s.1 → (∀ p ∈ ps, ∀ y ∈ p.right, y.non = true → 0 ≤ y.n) → ∀ x, x < s.1.length →
    ((ps.zipIdx j).foldl (reachP rank) s).1.getD x (0, 0) = if rk s.1 x = 0 then (match ps.findIdx? (fun p => decide (rk l p.left = rank) && stands p x) with
      | some q => (rank + 1, ((q + j : Nat) : Int))
      | none => s.1.getD x (0, 0)) else s.1.getD x (0, 0)
  | [], j, s, _, _, x, hx => by simp
  | p :: ps, j, s, hS, h, x, hx => by
    rw [List.zipIdx_cons, List.foldl_cons, List.findIdx?_cons]
    by_cases c : rk s.1 p.left = rank
    · have e : reachP rank s (p, j) = p.right.foldl (reachS rank j) s := by simp only [reachP, c, if_true]
      have cl : rk l p.left = rank := (hS _).1 c
      obtain ⟨a1, a2⟩ := foldS_at hr (j := j) p.right s (h p (by simp))
      have hlen : (p.right.foldl (reachS rank j) s).1.length = s.1.length := foldS_len _ _
      rw [e, foldP_at hr ps (j + 1) _ (fun n => (a2 n).trans (hS n)) (fun q hq => h q (by simp [hq])) x (by rw [hlen]; exact hx)]
      have hrk : rk (p.right.foldl (reachS rank j) s).1 x = (if rk s.1 x = 0 ∧ p.right.any (isN x) = true then rank + 1 else rk s.1 x) := by
        have := congrArg (·.1) (a1 x hx)
        unfold rk
        rw [Int.toNat_natCast, this]
        split
        · rename_i hh; rw [if_pos]; unfold rk at hh; simpa using hh
        · rename_i hh; rw [if_neg]; unfold rk at hh; simpa using hh
      rw [a1 x hx, hrk]
      by_cases hz : rk s.1 (x : Int) = 0
      · by_cases hst : p.right.any (isN x) = true
        · have hst' : stands p x = true := hst
          simp only [hz, hst, and_self, if_true, cl, decide_true, hst', Bool.and_self]
          rw [if_neg (by omega)]
          simp
        · have hst' : stands p x = false := by unfold stands; simpa using hst
          simp only [hz, hst, and_false, if_false, if_true, cl, decide_true, hst', Bool.and_false, Bool.false_eq_true]
          cases ps.findIdx? (fun p => decide (rk l p.left = rank) && stands p x) with
          | none => rfl
          | some q => simp; omega
      · simp [hz]
    · have e : reachP rank s (p, j) = s := by simp only [reachP, c, if_false]
      have cl : ¬ rk l p.left = rank := fun h => c ((hS _).2 h)
      rw [e, foldP_at hr ps (j + 1) s hS (fun q hq => h q (by simp [hq])) x hx]
      by_cases hz : rk s.1 (x : Int) = 0
      · simp only [hz, if_true, cl, decide_false, Bool.false_and, Bool.false_eq_true, if_false]
        cases ps.findIdx? (fun p => decide (rk l p.left = rank) && stands p x) with
        | none => rfl
        | some q => simp; omega
      · simp [hz]
theorem reachR_next {g : Gr} {rank : Int} {l : List Fc} (hr : 1 ≤ rank) (h : g.In l) : (reachR g rank l).1 = nextRL g rank l := by
  refine List.ext_getElem (by rw [reachR_len, nextRL_len]) fun x h1 h2 => ?_
  rw [reachR_len] at h1
  have e := foldP_at hr g.prods 0 (l, false) (fun n => Iff.rfl) (fun p hp y hy hn => ((h p hp).2 y hy hn).1) x h1
  have e1 : (reachR g rank l).1.getD x (0, 0) = (reachR g rank l).1[x]'(by rw [reachR_len]; exact h1) := by simp [reachR_len, h1]
  rw [← e1]
  show ((g.prods.zipIdx).foldl (reachP rank) (l, false)).1.getD x (0, 0) = _
  rw [e]
  simp only [nextRL, List.getElem_map, List.getElem_range, nextX]; rfl
theorem foldS_flag {rank : Int} {j : Nat} : ∀ (ys : List Sy) (s : List Fc × Bool), (ys.foldl (reachS rank j) s).2 = false → ys.foldl (reachS rank j) s = s
  | [], s, _ => rfl
  | y :: ys, s, h => by
    rw [List.foldl_cons] at h ⊢
    have ih := foldS_flag ys _ h
    rw [ih] at h ⊢
    unfold reachS at h ⊢
    split
    · rename_i c; rw [if_pos c] at h; cases h
    · rfl
theorem foldP_flag {rank : Int} : ∀ (xs : List (Pr × Nat)) (s : List Fc × Bool), (xs.foldl (reachP rank) s).2 = false → xs.foldl (reachP rank) s = s
  | [], s, _ => rfl
  | x :: xs, s, h => by
    rw [List.foldl_cons] at h ⊢
    have ih := foldP_flag xs _ h
    rw [ih] at h ⊢
    unfold reachP at h ⊢
    split
    · rename_i c; rw [if_pos c] at h; exact foldS_flag _ _ h
    · rfl
theorem rk_nextRL {g : Gr} {rank : Int} {l : List Fc} {n : Int} : rk (nextRL g rank l) n = rk l n ∨ (rk l n = 0 ∧ rk (nextRL g rank l) n = rank + 1) := by
  unfold rk
  by_cases hx : n.toNat < l.length
  · have e : (nextRL g rank l).getD n.toNat (0, 0) = nextX g rank l n.toNat := by simp [nextRL, hx, List.getD_eq_getElem?_getD]
    rw [e]
    unfold nextX
    split
    · rename_i h0
      split
      · exact .inr ⟨by unfold rk at h0; rwa [Int.toNat_natCast] at h0, rfl⟩
      · exact .inl rfl
    · exact .inl rfl
  · have e : (nextRL g rank l).getD n.toNat (0, 0) = (0, 0) := by
      rw [List.getD_eq_getElem?_getD, List.getElem?_eq_none (by rw [nextRL_len]; omega)]; rfl
    have e2 : l.getD n.toNat (0, 0) = (0, 0) := by
      rw [List.getD_eq_getElem?_getD, List.getElem?_eq_none (by omega)]; rfl
    rw [e, e2]; exact .inl rfl
theorem Bd_nextRL {g : Gr} {rank : Int} {l : List Fc} (hr : 1 ≤ rank) (hb : Bd l rank) : Bd (nextRL g rank l) (rank + 1) := by
  intro n
  have := hb n
  rcases rk_nextRL (g := g) (rank := rank) (l := l) (n := n) with e | ⟨_, e⟩ <;> rw [e] <;> omega
theorem Bd_I {g : Gr} : Bd (reachI g) 1 := by
  intro n
  unfold reachI
  rw [rk_set]
  split
  · decide
  · have := Bd_zero (n := g.nons.toNat) n
    omega
theorem zeros_I {g : Gr} (h : right g = true) : zeros (reachI g) ≤ g.nons.toNat - 1 := by
  obtain ⟨⟨hn1, _⟩, _, ⟨hs1, hs2⟩, _⟩ := right_in h
  have h0 : rk (List.replicate g.nons.toNat ((0, 0) : Fc)) g.start = 0 := by
    have := Bd_zero (n := g.nons.toNat) g.start
    omega
  have := zeros_set (l := List.replicate g.nons.toNat ((0, 0) : Fc)) (n := g.start) (f := (1, 0)) hs1 (by simp; omega) h0 (by decide)
  have h2 : zeros (List.replicate g.nons.toNat ((0, 0) : Fc)) ≤ g.nons.toNat := by unfold zeros; exact Nat.le_trans List.countP_le_length (by simp)
  unfold reachI
  omega
end Go.Av
namespace Go.Av
open Go.Proofs
def Rch (g : Gr) (l : List Fc) : Prop := l.getD g.start.toNat (0, 0) = (1, 0) ∧ ∀ x f, l[x]? = some f → showR g l x f = true
def RCl (g : Gr) (l : List Fc) (r : Int) : Prop := ∀ p ∈ g.prods, 1 ≤ rk l p.left → rk l p.left < r → ∀ s ∈ p.right, s.non = true → 1 ≤ rk l s.n ∧ rk l s.n ≤ rk l p.left + 1
theorem getD_next {g : Gr} {rank : Int} {l : List Fc} {x : Nat} (h : rk l x ≠ 0) : (nextRL g rank l).getD x (0, 0) = l.getD x (0, 0) := by
  by_cases hx : x < l.length
  · have e : (nextRL g rank l).getD x (0, 0) = nextX g rank l x := by simp [nextRL, hx, List.getD_eq_getElem?_getD]
    rw [e, nextX, if_neg h]
  · rw [List.getD_eq_getElem?_getD, List.getD_eq_getElem?_getD, List.getElem?_eq_none (by rw [nextRL_len]; omega), List.getElem?_eq_none (by omega)]
theorem rk_keep {g : Gr} {rank : Int} {l : List Fc} {n : Int} (h : rk l n ≠ 0) : rk (nextRL g rank l) n = rk l n := by
  rcases rk_nextRL (g := g) (rank := rank) (l := l) (n := n) with e | ⟨e, _⟩
  · exact e
  · exact (h e).elim
theorem stands_of {p : Pr} {s : Sy} (hs : s ∈ p.right) (hn : s.non = true) : stands p s.n = true := List.any_eq_true.2 ⟨s, hs, by simp [isN, hn]⟩
theorem next_hit {g : Gr} {rank : Int} {l : List Fc} {p : Pr} {n : Int} (hp : p ∈ g.prods) (hr : rk l p.left = rank) (h0 : 0 ≤ n) (h1 : n < l.length) (hst : stands p n = true) (hz : rk l n = 0) : rk (nextRL g rank l) n = rank + 1 := by
  have hx : n.toNat < l.length := by omega
  have e : (nextRL g rank l).getD n.toNat (0, 0) = nextX g rank l n.toNat := by simp [nextRL, hx, List.getD_eq_getElem?_getD]
  have hn : ((n.toNat : Nat) : Int) = n := by omega
  unfold rk
  rw [e, nextX, hn, if_pos hz]
  cases hq : g.prods.findIdx? (fun p => decide (rk l p.left = rank) && stands p n) with
  | some q => rfl
  | none =>
    rw [List.findIdx?_eq_none_iff] at hq
    have := hq p hp
    simp [hr, hst] at this
theorem Rch_next {g : Gr} {rank : Int} {l : List Fc} (hr : 1 ≤ rank) (hb : Bd l rank) (h : Rch g l) : Rch g (nextRL g rank l) := by
  obtain ⟨h1, h2⟩ := h
  have hst : rk l ((g.start.toNat : Nat) : Int) ≠ 0 := by unfold rk; rw [Int.toNat_natCast, h1]; decide
  refine ⟨by rw [getD_next hst]; exact h1, fun x f hf => ?_⟩
  have hx : x < l.length := by
    have := (List.getElem?_eq_some_iff.1 hf).1
    rwa [nextRL_len] at this
  have hl : l[x]? = some (l.getD x (0, 0)) := by simp [hx]
  have e : f = nextX g rank l x := by
    simp [nextRL, hx] at hf
    exact hf.symm
  have old := h2 x _ hl
  have keep : showR g (nextRL g rank l) x (l.getD x (0, 0)) = true := by
    unfold showR at old ⊢
    simp only [Bool.or_eq_true, Bool.and_eq_true] at old ⊢
    rcases old with old | ⟨o1, o2⟩
    · exact .inl old
    · refine .inr ⟨o1, ?_⟩
      revert o2
      split
      · rename_i p hp
        simp only [Bool.and_eq_true, decide_eq_true_eq]
        rintro ⟨⟨y1, y2⟩, y3⟩
        rw [rk_keep (by omega)]
        exact ⟨⟨y1, y2⟩, y3⟩
      · exact id
  unfold nextX at e
  split at e
  · rename_i h0
    split at e
    · rename_i q hq
      subst e
      obtain ⟨hq1, hq2, _⟩ := List.findIdx?_eq_some_iff_getElem.1 hq
      simp only [Bool.and_eq_true, decide_eq_true_eq] at hq2
      have hp : g.prods[((q : Int)).toNat]? = some (g.prods[q]) := by simp [hq1]
      unfold showR
      simp only [hp, Bool.or_eq_true, Bool.and_eq_true, decide_eq_true_eq]
      refine .inr ⟨⟨by omega, by omega⟩, ?_⟩
      rw [rk_keep (by omega)]
      exact ⟨⟨by omega, by omega⟩, hq2.2⟩
    · subst e; exact keep
  · subst e; exact keep
theorem RCl_next {g : Gr} {rank : Int} {l : List Fc} (hr : 1 ≤ rank) (hb : Bd l rank) (hi : g.In l) (h : RCl g l rank) : RCl g (nextRL g rank l) (rank + 1) := by
  intro p hp h1 h2 s hs hn
  have hpl : rk (nextRL g rank l) p.left = rk l p.left := by
    rcases rk_nextRL (g := g) (rank := rank) (l := l) (n := p.left) with e | ⟨_, e⟩
    · exact e
    · omega
  rw [hpl] at h1 h2 ⊢
  have hb1 := hb s.n
  have hb2 := hb p.left
  by_cases hlt : rk l p.left < rank
  · have := h p hp h1 hlt s hs hn
    rw [rk_keep (by omega)]
    exact this
  · have he : rk l p.left = rank := by omega
    have hin := (hi p hp).2 s hs hn
    by_cases hz : rk l s.n = 0
    · rw [next_hit hp he hin.1 hin.2 (stands_of hs hn) hz]; omega
    · rw [rk_keep hz]; omega
theorem reach_fin' {g : Gr} : ∀ (m : Nat) (rank : Int) (l : List Fc), 1 ≤ rank → Bd l rank → g.In l → zeros l ≤ m → Rch g l → RCl g l rank →
    (reachLoop g (m + 1) rank l).length = l.length ∧ (∃ b, Bd (reachLoop g (m + 1) rank l) b) ∧ Rch g (reachLoop g (m + 1) rank l) ∧ ∀ r, RCl g (reachLoop g (m + 1) rank l) r := by
  have stop : ∀ (rank : Int) (l : List Fc), 1 ≤ rank → Bd l rank → g.In l → (reachR g rank l).2 = false → RCl g l rank → ∀ r, RCl g l r := by
    intro rank l hr hb hi h2 hc r p hp h1 _ s hs hn
    have h3 : nextRL g rank l = l := by
      rw [← reachR_next hr hi]
      exact congrArg (·.1) (foldP_flag _ _ h2)
    have hbp := hb p.left
    have := RCl_next hr hb hi hc
    rw [h3] at this
    exact this p hp h1 (by omega) s hs hn
  intro m
  induction m with
  | zero =>
    intro rank l hr hb hi hz hs hc
    have h2 : (reachR g rank l).2 = false := by
      cases h : (reachR g rank l).2 with
      | false => rfl
      | true => have := reachR_zeros hr hi h; omega
    have h3 : (reachR g rank l).1 = l := congrArg (·.1) (foldP_flag _ _ h2)
    rw [reachLoop, h2, if_neg (by simp), h3]
    exact ⟨rfl, ⟨_, hb⟩, hs, stop rank l hr hb hi h2 hc⟩
  | succ m ih =>
    intro rank l hr hb hi hz hs hc
    cases h : (reachR g rank l).2 with
    | false =>
      have h3 : (reachR g rank l).1 = l := congrArg (·.1) (foldP_flag _ _ h)
      rw [reachLoop, h, if_neg (by simp), h3]
      exact ⟨rfl, ⟨_, hb⟩, hs, stop rank l hr hb hi h hc⟩
    | true =>
      have hn := reachR_next hr hi
      have hz' := reachR_zeros hr hi h
      rw [reachLoop, h, if_pos rfl, hn]
      rw [hn] at hz'
      have := ih (rank + 1) (nextRL g rank l) (by omega) (Bd_nextRL hr hb) (hi.of nextRL_len) (by omega) (Rch_next hr hb hs) (RCl_next hr hb hi hc)
      rw [nextRL_len] at this
      exact this
theorem reach_fin {g : Gr} (h : right g = true) : ((reachL g).length : Int) = g.nons ∧ (∃ b, Bd (reachL g) b) ∧ Rch g (reachL g) ∧ ∀ r, RCl g (reachL g) r := by
  obtain ⟨⟨hn, _⟩, _, ⟨hs1, hs2⟩, _⟩ := right_in h
  unfold reachL
  rw [if_pos h]
  have hst : (reachI g).getD g.start.toNat (0, 0) = (1, 0) := by
    unfold reachI
    rw [List.getD_eq_getElem?_getD, List.getElem?_set, if_pos rfl, if_pos (by rw [List.length_replicate]; omega)]
    rfl
  have := reach_fin' (g := g) g.nons.toNat 1 (reachI g) (by omega) Bd_I (right_In h (by rw [reachI_len]; omega)) (by have := zeros_I h; omega)
    ⟨hst, fun x f hf => by
      unfold showR
      by_cases e : x = g.start.toNat
      · have : (x : Int) = g.start := by omega
        simp [this]
      · unfold reachI at hf
        rw [List.getElem?_set, if_neg (Ne.symm e), List.getElem?_replicate] at hf
        split at hf
        · cases hf; simp
        · cases hf⟩
    (fun p hp h1 h2 => by omega)
  refine ⟨by rw [this.1, reachI_len]; omega, this.2⟩
end Go.Av
namespace Go.Av
open Go.Proofs
structure Lf where
  prod : Nat
  dot : Nat
  frm : Nat
  to : Nat
def eLf (x : Lf) : List AV := [.int .i64 x.prod, .int .i64 x.dot]
def eTo (x : Lf) : List AV := [.int .i64 x.frm, .int .i64 x.to]
def ent (x : Lf) : AV × AV := (.agg (eLf x), .agg (eTo x))
def stepsP (null : List Fc) (i left : Nat) : List Sy → Nat → List Lf
  | [], _ => []
  | s :: r, k => if s.non then ⟨i, k, left, s.n.toNat⟩ :: (if rk null s.n = 0 then [] else stepsP null i left r (k + 1)) else []
def stepsF (null : List Fc) (l : List (Pr × Nat)) : List Lf := l.flatMap fun x => stepsP null x.2 x.1.left.toNat x.1.right 0
def stepsG (g : Gr) : List Lf := stepsF (ranksL g false) g.prods.zipIdx
theorem zip_drop {g : Gr} {i : Nat} {p : Pr} (h : g.prods[i]? = some p) : g.prods.zipIdx.drop i = (p, i) :: g.prods.zipIdx.drop (i + 1) := by
  obtain ⟨hi, he⟩ := List.getElem?_eq_some_iff.1 h
  rw [List.drop_eq_getElem_cons (by simpa using hi)]
  congr 1
  rw [List.getElem_zipIdx, he]
  simp
def Uq (L : List Lf) : Prop := ∀ x ∈ L, ∀ y ∈ L, x.prod = y.prod → x.dot = y.dot → x = y
def Ahead (L : List Lf) (i k : Nat) : Prop := ∀ y ∈ L, y.prod < i ∨ (y.prod = i ∧ y.dot < k)
theorem Uq.snoc {L : List Lf} {x : Lf} (h : Uq L) (a : Ahead L x.prod x.dot) : Uq (L ++ [x]) := by
  intro y hy z hz e1 e2
  simp only [List.mem_append, List.mem_singleton] at hy hz
  rcases hy with hy | rfl <;> rcases hz with hz | rfl
  · exact h y hy z hz e1 e2
  · have := a y hy; omega
  · have := a z hz; omega
  · rfl
theorem Ahead.snoc {L : List Lf} {x : Lf} (a : Ahead L x.prod x.dot) : Ahead (L ++ [x]) x.prod (x.dot + 1) := by
  intro y hy
  simp only [List.mem_append, List.mem_singleton] at hy
  rcases hy with hy | rfl
  · have := a y hy; omega
  · right; omega
theorem Ahead.next {L : List Lf} {i k : Nat} (a : Ahead L i k) : Ahead L (i + 1) 0 := by
  intro y hy
  have := a y hy; omega
theorem cell_lf {x y : Lf} : cellEq [.int .i64, .int .i64] (.agg (eLf x)) (.agg (eLf y)) = some (decide (x.prod = y.prod) && decide (x.dot = y.dot)) := by
  simp only [cellEq, cellsOf, eLf, eqs, eq1, and_self, if_true, Bool.and_true]
  have h1 : ((x.prod : Int) == (y.prod : Int)) = decide (x.prod = y.prod) := by rw [int_beq]; exact decide_eq_decide.2 Int.ofNat_inj
  have h2 : ((x.dot : Int) == (y.dot : Int)) = decide (x.dot = y.dot) := by rw [int_beq]; exact decide_eq_decide.2 Int.ofNat_inj
  rw [h1, h2]
  exact if_pos (by decide)
theorem key_lf {x : Lf} : keyOK [.int .i64, .int .i64] (.agg (eLf x)) = true := by
  unfold keyOK; rw [cell_lf]; rfl
theorem find_no {x : Lf} : ∀ L : List Lf, Ahead L x.prod x.dot → find [.int .i64, .int .i64] (.agg (eLf x)) (L.map ent) = some none
  | [], _ => rfl
  | y :: L, h => by
    have h1 := h y (by simp)
    rw [List.map_cons, ent, find, cell_lf]
    have : (decide (x.prod = y.prod) && decide (x.dot = y.dot)) = false := by simp; omega
    rw [this]
    exact find_no L fun z hz => h z (by simp [hz])
theorem find_yes {x : Lf} : ∀ L : List Lf, Uq L → x ∈ L → find [.int .i64, .int .i64] (.agg (eLf x)) (L.map ent) = some (some (.agg (eTo x)))
  | [], _, h => by cases h
  | y :: L, hu, hx => by
    rw [List.map_cons, ent, find, cell_lf]
    by_cases e : x.prod = y.prod ∧ x.dot = y.dot
    · have := hu x hx y (by simp) e.1 e.2
      subst this
      simp
    · have h1 : (decide (x.prod = y.prod) && decide (x.dot = y.dot)) = false := by simp; omega
      rw [h1]
      rcases List.mem_cons.1 hx with rfl | hx
      · exact absurd ⟨rfl, rfl⟩ e
      · exact find_yes L (fun a ha b hb => hu a (by simp [ha]) b (by simp [hb])) hx
def LIn (M : Nat) (L : List Lf) : Prop := ∀ x ∈ L, x.frm < M ∧ x.to < M
theorem stepsP_in {null : List Fc} {M i left : Nat} (hl : left < M) : ∀ (r : List Sy) (k : Nat), (∀ s ∈ r, s.non = true → 0 ≤ s.n ∧ s.n < M) → ∀ x ∈ stepsP null i left r k, x.frm < M ∧ x.to < M
  | [], k, _, x, hx => by cases hx
  | s :: r, k, h, x, hx => by
    rw [stepsP] at hx
    split at hx
    · rename_i hn
      have hs := h s (by simp) hn
      rcases List.mem_cons.1 hx with rfl | hx
      · exact ⟨hl, by simp only; omega⟩
      · split at hx
        · cases hx
        · exact stepsP_in hl r (k + 1) (fun y hy => h y (by simp [hy])) x hx
    · cases hx
theorem steps_in {g : Gr} (hr : right g = true) : LIn g.nons.toNat (stepsG g) := by
  obtain ⟨h1, _, _, _, h5⟩ := right_in hr
  intro x hx
  simp only [stepsG, stepsF, List.mem_flatMap] at hx
  obtain ⟨⟨p, i⟩, hp, hx⟩ := hx
  obtain ⟨a, _, c⟩ := h5 p (List.fst_mem_of_mem_zipIdx hp)
  refine stepsP_in (by simp only; omega) p.right 0 (fun s hs hn => ?_) x hx
  have := c s hs
  rw [if_pos hn] at this
  omega
def Pth (L : List Lf) : Nat → Nat → List Lf → Prop
  | a, b, [] => a = b
  | a, b, x :: l => x ∈ L ∧ x.frm = a ∧ Pth L x.to b l
def Cyc (g : Gr) (n : Nat) : Prop := ∃ l, l ≠ [] ∧ Pth (stepsG g) n n l
noncomputable def cycB (g : Gr) (n : Nat) : Bool := @decide (Cyc g n) (Classical.propDecidable _)
theorem cycB_iff {g : Gr} {n : Nat} : cycB g n = true ↔ Cyc g n := by
  unfold cycB
  exact @decide_eq_true_iff _ (Classical.propDecidable _)
theorem Pth.app {L : List Lf} {b c : Nat} {m : List Lf} (h2 : Pth L b c m) : ∀ {a : Nat} {l : List Lf}, Pth L a b l → Pth L a c (l ++ m)
  | a, [], h => by
    have : a = b := h
    subst this; exact h2
  | a, x :: l, h => ⟨h.1, h.2.1, Pth.app h2 h.2.2⟩
structure Aw (L : List Lf) (M to : Nat) (a : List Int) : Prop where
  len : a.length = M
  zero : a.getD to (-1) = 0
  low : ∀ n, -1 ≤ a.getD n (-1)
  only : ∀ n, a.getD n (-1) = 0 → n = to
  cnt : ∀ n, a.getD n (-1) < (a.countP fun d => decide (0 ≤ d) : Nat)
  by' : ∀ n, 0 < a.getD n (-1) → ∃ x ∈ L, x.frm = n ∧ 0 ≤ a.getD x.to (-1) ∧ a.getD x.to (-1) < a.getD n (-1)
def AwCl (L : List Lf) (a : List Int) : Prop := ∀ x ∈ L, 0 ≤ a.getD x.to (-1) → 0 ≤ a.getD x.frm (-1) ∧ a.getD x.frm (-1) ≤ a.getD x.to (-1) + 1
def awM (M : Nat) (a : List Int) : Nat := (a.map fun d => if d < 0 then M + 1 else d.toNat).sum
theorem getD_set {a : List Int} {i n : Nat} {v : Int} (h : i < a.length) : (a.set i v).getD n (-1) = if n = i then v else a.getD n (-1) := by
  rw [List.getD_eq_getElem?_getD, List.getElem?_set]
  by_cases e : i = n
  · rw [if_pos e, if_pos h, if_pos e.symm]; rfl
  · rw [if_neg e, if_neg (Ne.symm e), ← List.getD_eq_getElem?_getD]
theorem countP_set {p : Int → Bool} : ∀ {a : List Int} {i : Nat} {v : Int}, i < a.length → p v = true → (a.set i v).countP p = a.countP p + (if p (a.getD i (-1)) then 0 else 1)
  | [], i, v, h, _ => by simp at h
  | x :: a, 0, v, h, hv => by
    simp only [List.set_cons_zero, List.countP_cons, hv, List.getD_cons_zero, if_true]
    cases p x <;> simp
  | x :: a, i + 1, v, h, hv => by
    rw [List.set_cons_succ, List.countP_cons, List.countP_cons, countP_set (by simpa using h) hv, List.getD_cons_succ]
    omega
theorem awM_set {M : Nat} : ∀ {a : List Int} {i : Nat} {v : Int}, i < a.length → (if v < 0 then M + 1 else v.toNat) < (if a.getD i (-1) < 0 then M + 1 else (a.getD i (-1)).toNat) → awM M (a.set i v) < awM M a
  | [], i, v, h, _ => by simp at h
  | x :: a, 0, v, h, hv => by
    simp only [awM, List.set_cons_zero, List.map_cons, List.sum_cons, List.getD_cons_zero] at hv ⊢
    omega
  | x :: a, i + 1, v, h, hv => by
    rw [List.getD_cons_succ] at hv
    have := awM_set (by simpa using h) hv
    simp only [awM, List.set_cons_succ, List.map_cons, List.sum_cons] at this ⊢
    omega
theorem Aw.set {L : List Lf} {M to : Nat} {a : List Int} (h : Aw L M to a) {x : Lf} (hx : x ∈ L) (hL : LIn M L) (h0 : 0 ≤ a.getD x.to (-1)) (h1 : a.getD x.frm (-1) < 0 ∨ a.getD x.to (-1) + 1 < a.getD x.frm (-1)) :
    Aw L M to (a.set x.frm (a.getD x.to (-1) + 1)) ∧ awM M (a.set x.frm (a.getD x.to (-1) + 1)) < awM M a := by
  obtain ⟨k1, k2, k3, k4, k5, k6⟩ := h
  obtain ⟨hf, ht⟩ := hL x hx
  have hfl : x.frm < a.length := by omega
  obtain ⟨d, hd⟩ : ∃ d, d = a.getD x.to (-1) := ⟨_, rfl⟩
  rw [← hd] at h0 h1 ⊢
  have hcM : a.countP (fun d => decide (0 ≤ d)) ≤ M := by rw [← k1]; exact List.countP_le_length
  have hdc := k5 x.to
  rw [← hd] at hdc
  have hne : x.frm ≠ to := fun e => by rw [e, k2] at h1; omega
  have hnt : x.to ≠ x.frm := fun e => by rw [← e, ← hd] at h1; omega
  have hcs : (a.set x.frm (d + 1)).countP (fun d => decide (0 ≤ d)) = a.countP (fun d => decide (0 ≤ d)) + (if decide (0 ≤ a.getD x.frm (-1)) = true then 0 else 1) := countP_set hfl (by simp; omega)
  refine ⟨⟨by simpa using k1, ?_, fun n => ?_, fun n => ?_, fun n => ?_, fun n => ?_⟩, awM_set hfl ?_⟩
  · rw [getD_set hfl, if_neg (Ne.symm hne)]; exact k2
  · rw [getD_set hfl]; split
    · omega
    · exact k3 n
  · rw [getD_set hfl]; split
    · intro e; omega
    · exact k4 n
  · rw [hcs, getD_set hfl]
    have := k5 n
    have hif : (if decide (0 ≤ a.getD x.frm (-1)) = true then 0 else 1) = if 0 ≤ a.getD x.frm (-1) then 0 else 1 := by
      by_cases hp : 0 ≤ a.getD x.frm (-1) <;> simp only [hp, decide_true, decide_false, if_true, Bool.false_eq_true, if_false]
    rw [hif]
    by_cases hp : 0 ≤ a.getD x.frm (-1)
    · rw [if_pos hp]
      split
      · rename_i e
        rw [e] at this
        omega
      · omega
    · rw [if_neg hp]
      split
      · omega
      · omega
  · rw [getD_set hfl]
    split
    · rename_i e
      intro _
      refine ⟨x, hx, e.symm, ?_, ?_⟩
      · rw [getD_set hfl, if_neg hnt, ← hd]; exact h0
      · rw [getD_set hfl, if_neg hnt, ← hd]; omega
    · intro hp
      obtain ⟨y, hy, e1, e2, e3⟩ := k6 n hp
      refine ⟨y, hy, e1, ?_, ?_⟩
      · rw [getD_set hfl]; split
        · omega
        · exact e2
      · rw [getD_set hfl]; split
        · rename_i e4
          rw [e4] at e2 e3
          omega
        · exact e3
  · rw [if_neg (by omega)]
    split <;> omega
theorem path_aw {L : List Lf} {M to : Nat} {a : List Int} (h : Aw L M to a) (hc : AwCl L a) : ∀ (l : List Lf) (n : Nat), Pth L n to l → 0 ≤ a.getD n (-1)
  | [], n, hp => by
    have : n = to := hp
    rw [this, h.zero]; exact Int.le_refl 0
  | x :: l, n, ⟨hx, e, hp⟩ => by
    have := path_aw h hc l x.to hp
    rw [← e]
    exact (hc x hx this).1
end Go.Av
