/-
  Layer 13, the document's answer: the steps. Conditions: none.
-/
import Derived.Test.YtiiogleijmcccaaU8
namespace Go.Av
open Go.Proofs
set_option maxRecDepth 100000
set_option linter.unusedSimpArgs false
set_option linter.unusedVariables false

theorem stepsP_at {null : List Fc} {i left : Nat} : ∀ (r : List Sy) (k : Nat), ∀ x ∈ stepsP null i left r k, x.prod = i ∧ x.frm = left ∧ k ≤ x.dot ∧ ∃ s, r[x.dot - k]? = some s ∧ s.non = true ∧ x.to = s.n.toNat
  | [], k, x, hx => by cases hx
  | s :: r, k, x, hx => by
    rw [stepsP] at hx
    split at hx
    · rename_i hn
      rcases List.mem_cons.1 hx with rfl | hx
      · exact ⟨rfl, rfl, Nat.le_refl _, s, by simp, hn, rfl⟩
      · split at hx
        · cases hx
        · obtain ⟨a, b, c, s', d, e⟩ := stepsP_at r (k + 1) x hx
          refine ⟨a, b, by omega, s', ?_, e⟩
          rw [show x.dot - k = (x.dot - (k + 1)) + 1 by omega, List.getElem?_cons_succ]
          exact d
    · cases hx

theorem steps_at {g : Gr} {x : Lf} (hx : x ∈ stepsG g) : ∃ p s, g.prods[x.prod]? = some p ∧ p.right[x.dot]? = some s ∧ s.non = true ∧ x.to = s.n.toNat ∧ x.frm = p.left.toNat := by
  simp only [stepsG, stepsF, List.mem_flatMap] at hx
  obtain ⟨⟨p, i⟩, hp, hx⟩ := hx
  obtain ⟨a, b, c, s, d, e, f⟩ := stepsP_at p.right 0 x hx
  have := List.mem_zipIdx_iff_getElem?.1 hp
  exact ⟨p, s, by rw [a]; exact this, by simpa using d, e, f, b⟩

/-- All ahead may be nothing. -/
def preB (null : List Fc) (r : List Sy) (k : Nat) : Bool := (r.take k).all fun s => s.non && !decide (rk null s.n = 0)

theorem pre_next {null : List Fc} {r : List Sy} {k : Nat} {s : Sy} (h : r[k]? = some s) : preB null r (k + 1) = (preB null r k && (s.non && !decide (rk null s.n = 0))) := by
  unfold preB
  rw [List.take_add_one, h]
  simp

theorem pre_up {null : List Fc} {r : List Sy} {k : Nat} : ∀ j, preB null r k = false → preB null r (k + j) = false := fun j h => by
  unfold preB at h ⊢
  rw [List.all_eq_false] at h ⊢
  obtain ⟨x, hx, h⟩ := h
  exact ⟨x, List.take_subset_take_left r (Nat.le_add_right k j) hx, h⟩

set_option maxHeartbeats 4000000 in
theorem f144 (g : Gr) (hg : g.Small) (hr : right g = true) (null : List Fc) (hnl : (null.length : Int) = g.nons) (i k : Nat) (p : Pr) (hp : g.prods[i]? = some p) (s : Sy) (hs : p.right[k]? = some s) :
    PF pg Tq 144 [.agg (eGr g), .ro (null.map eFc), .agg [.int .i64 i, .int .i64 k]] (.bool (preB null p.right k && s.non)) := by
  obtain ⟨⟨hn1, hn2⟩, _, _, hp60, h5⟩ := right_in hr
  have hm : p ∈ g.prods := List.mem_of_getElem? hp
  obtain ⟨⟨hl0, hl1⟩, h8, hsy⟩ := h5 p hm
  have hi : i < g.prods.length := (List.getElem?_eq_some_iff.1 hp).1
  have hk : k < p.right.length := (List.getElem?_eq_some_iff.1 hs).1
  refine Fb ?_
  refine FH.of (N := 78) (rs := #[.tmp 6]) Try.func144 rfl rfl (of_decide_eq_true rfl) rfl (by decide) ?_
  refine W.rseq (k := 3) rfl fun K hK => ?_
  simp only [go_sem]
  refine hK _ _ _ ?_
  clear hK K
  refine W.seq ?_
  refine W.dseq (k := 29) rfl fun K hK => ?_
  simp only [go_sem, hp, hs, decide_eq_false (show ¬ ((i : Int) < 0) by omega), decide_eq_false (show ¬ ((i : Int) ≥ (g.prods.length : Int)) by omega), decide_eq_false (show ¬ ((k : Int) < 0) by omega), decide_eq_false (show ¬ ((k : Int) ≥ (p.right.length : Int)) by omega)]
  refine hK _ _ _ _ (by kernel_rfl) ?_
  clear hK K
  refine W.condF (by simp only [go_sem]) ?_
  refine W.skip ?_
  simp only [go_sem]
  refine W.seqk fun K hK => ?_
  refine W.rseq (k := 1) rfl fun K hK => ?_
  simp only [go_sem]
  refine hK _ _ _ ?_
  clear hK K
  have nx : ∀ (t' : Fr) (h' : Heap) (n' : Nat), 1 < n' → preB null p.right k = true → h' 0 = some (.cells [eGr g]) → h' 1 = some (.cells [[.int .i64 i, .int .i64 k]]) → (t' 1 = .ro (null.map eFc) ∧ t' 3 = .ptr 0 0 0 ∧ t' 5 = .ptr 1 0 0) → K t' h' n' := by
    intro t' h' n' e1 e2 e3 e4 e5
    refine hK _ _ _ ?_
    clear hK K
    obtain ⟨a1, a3, a5⟩ := e5
    refine W.dseq (k := 13) rfl fun K hK => ?_
    simp only [go_sem, a3, a5, e3, e4, hp, hs, eq_true e1, eq_true (show 0 < n' by omega)]
    refine hK _ _ _ _ (by kernel_rfl) ?_
    clear hK K
    refine W.ret ?_
    simp only [go_sem]
    rw [e2]; rfl
  clear hK
  refine W.block (W.while (fun m t h n => ∃ j : Nat, m = k - j ∧ j ≤ k ∧ 1 < n ∧ preB null p.right j = true ∧ h 0 = some (.cells [eGr g]) ∧ h 1 = some (.cells [[.int .i64 i, .int .i64 k]]) ∧ (t 1 = .ro (null.map eFc) ∧ t 3 = .ptr 0 0 0 ∧ t 5 = .ptr 1 0 0) ∧ t 7 = .int .i64 j) k
    ⟨0, by simp, by simp, by omega, by simp [preB], by simp only [go_sem], by simp only [go_sem], ⟨rfl, rfl, rfl⟩, rfl⟩ fun m t h n ⟨j, i1, i2, i3, i4, i5, i6, i7, i8⟩ => ?_)
  have i7' := i7
  obtain ⟨a1, a3, a5⟩ := i7'
  refine W.seq ?_
  refine W.rseq (k := 4) rfl fun K hK => ?_
  simp only [go_sem, i8, a5, i6]
  refine hK _ _ _ ?_
  clear hK K
  refine W.cond rfl (fun hc => ?_) fun hc => ?_
  · refine W.skip ?_
    simp only [go_sem]
    have hj : j < k := by simp at hc; omega
    obtain ⟨y, hy⟩ := get_some (l := p.right) (k := j) (by omega)
    have hym := List.mem_of_getElem? hy
    have hyb := hsy y hym
    have z0 : ∀ j, ¬ 0 = n + j := fun j => by omega
    have z1 : ∀ j, ¬ 1 = n + j := fun j => by omega
    refine W.seqk fun K hK => ?_
    have nx2 : ∀ (t' : Fr) (h' : Heap) (n' : Nat), 1 < n' → preB null p.right (j + 1) = true → h' 0 = some (.cells [eGr g]) → h' 1 = some (.cells [[.int .i64 i, .int .i64 k]]) → (t' 1 = .ro (null.map eFc) ∧ t' 3 = .ptr 0 0 0 ∧ t' 5 = .ptr 1 0 0) → t' 7 = .int .i64 j → K t' h' n' := by
      intro t' h' n' e1 e2 e3 e4 e5 e6
      refine hK _ _ _ ?_
      clear hK K
      refine W.region (k := 3) rfl ?_
      simp only [go_sem, e6]
      refine ⟨k - (j + 1), by omega, j + 1, rfl, by omega, by omega, e2, e3, e4, e5, ?_⟩
      rw [wrap64 (by omega) (by omega)]; rfl
    clear hK
    refine W.block ?_
    refine W.rseq (k := 12) rfl fun K hK => ?_
    simp only [go_sem, a3, a5, i5, i6, hp, hy, i8]
    refine hK _ _ _ ?_
    clear hK K
    have hpn := pre_next (null := null) hy
    rw [i4, Bool.true_and] at hpn
    have bad : preB null p.right (j + 1) = false → preB null p.right k = false := fun h => by
      have := pre_up (k - (j + 1)) h
      rwa [show j + 1 + (k - (j + 1)) = k by omega] at this
    refine W.rseq (k := 12) rfl fun K hK => ?_
    cases hyn : y.non with
    | false =>
      rw [hyn] at hpn
      simp only [go_sem, hyn]
      refine hK _ _ _ ?_
      first | clear hK K | clear hK | skip
      refine W.condT (by simp only [go_sem]) ?_
      refine W.rseq (k := 1) rfl fun K hK => ?_
      simp only [go_sem]
      refine hK _ _ _ ?_
      clear hK K
      refine W.ret ?_
      simp only [go_sem]
      rw [bad hpn]; rfl
    | true =>
    rw [hyn, if_pos rfl] at hyb
    rw [hyn, Bool.true_and] at hpn
    obtain ⟨b, hb⟩ := fc_get (l := null) (n := y.n) (by omega) (by omega)
    have hyi : 0 ≤ y.n := by omega
    simp only [go_sem, hyn, a1, hb, hyi]
    refine hK _ _ _ ?_
    first | clear hK K | clear hK | skip
    by_cases hz : rk null y.n = 0
    · rw [decide_eq_true hz] at hpn
      refine W.condT (by simp only [go_sem, decide_eq_true hz]) ?_
      refine W.rseq (k := 1) rfl fun K hK => ?_
      simp only [go_sem]
      refine hK _ _ _ ?_
      clear hK K
      refine W.ret ?_
      simp only [go_sem]
      rw [bad hpn]; rfl
    · rw [decide_eq_false hz] at hpn
      refine W.condF (by simp only [go_sem, decide_eq_false hz]) ?_
      refine W.skip ?_
      simp only [go_sem]
      exact nx2 _ _ _ (by omega) hpn (by simp only [go_sem, z0, i5]) (by simp only [go_sem, z1, i6]) ⟨a1, a3, a5⟩ i8
  · refine W.exit ?_
    simp only [go_sem]
    have hj : j = k := by simp at hc; omega
    rw [hj] at i4
    exact nx _ _ _ (by omega) i4 i5 i6 ⟨a1, a3, a5⟩

set_option maxHeartbeats 4000000 in
theorem f129 (g : Gr) (hg : g.Small) (hr : right g = true) (x : Lf) (hx : x ∈ stepsG g) : PF pg Tq 129 [.agg (eGr g), .agg (eLf x)] (.int .i64 x.to) := by
  obtain ⟨⟨hn1, hn2⟩, _, _, hp60, h5⟩ := right_in hr
  obtain ⟨p, s, hp, hs, h1, h2, h3⟩ := steps_at hx
  have hi : x.prod < g.prods.length := (List.getElem?_eq_some_iff.1 hp).1
  have hk : x.dot < p.right.length := (List.getElem?_eq_some_iff.1 hs).1
  have hsy := (h5 p (List.mem_of_getElem? hp)).2.2 s (List.mem_of_getElem? hs)
  have hto : s.n = (x.to : Int) := by omega
  have fin : FH pg Tq 129 [.agg (eGr g), .agg (eLf x)] h0 0 fun r h n => r = .int .i64 x.to := by
    refine FH.of (N := 17) (rs := #[.tmp 4]) Try.func129 rfl rfl (of_decide_eq_true rfl) rfl (by decide) ?_
    refine W.rseq (k := 3) rfl fun K hK => ?_
    simp only [go_sem]
    refine hK _ _ _ ?_
    clear hK K
    refine W.dseq (k := 13) rfl fun K hK => ?_
    simp only [go_sem, hp, hs, hto]
    refine hK _ _ _ _ (by kernel_rfl) ?_
    clear hK K
    refine W.ret ?_
    simp only [go_sem]
  obtain ⟨r, h', n', hb, rfl⟩ := fin
  exact ⟨_, h', n', hb, 1, fun fr => rfl⟩

set_option maxHeartbeats 8000000 in
theorem f128 (g : Gr) (hg : g.Small) (hr : right g = true) : PF pg Tq 128 [.agg (eGr g)] (.ro ((stepsG g).map eLf)) := by
  obtain ⟨⟨hn1, hn2⟩, _, _, hp60, h5⟩ := right_in hr
  obtain ⟨null, hnull⟩ : ∃ null, null = ranksL g false := ⟨_, rfl⟩
  have hnl : (null.length : Int) = g.nons := by rw [hnull]; exact (ranks_fin (terms := false) hr).1
  have h31 := OwnFc.pf (f31 g hg false)
  rw [← ranks_same, ← hnull] at h31
  have hsG : stepsG g = stepsF null g.prods.zipIdx := by rw [stepsG, hnull]
  have fin : FH pg Tq 128 [.agg (eGr g)] h0 0 fun r h n => SlL eLf 2 h 0 n r (stepsG g) := by
    refine FH.of (N := 41) (rs := #[.tmp 2]) Try.func128 rfl rfl (of_decide_eq_true rfl) rfl (by decide) ?_
    refine W.rseq (k := 2) rfl fun K hK => ?_
    simp only [go_sem]
    refine hK _ _ _ ?_
    clear hK K
    refine W.rseq (k := 2) rfl fun K hK => ?_
    simp only [go_sem]
    refine hK _ _ _ ?_
    clear hK K
    refine W.rseq (k := 3) rfl fun K hK => ?_
    simp only [go_sem]
    refine VCall.frz 6 h31 rfl ?_
    try simp only [go_sem]
    refine hK _ _ _ ?_
    clear hK K
    refine W.seqk fun K hK => ?_
    refine W.rseq (k := 1) rfl fun K hK => ?_
    simp only [go_sem]
    refine hK _ _ _ ?_
    clear hK K
    have nx0 : ∀ (t' : Fr) (h' : Heap) (n' : Nat), SlL eLf 2 h' 1 n' (t' 3) (stepsG g) → K t' h' n' := by
      intro t' h' n' e1
      refine hK _ _ _ ?_
      clear hK K
      refine W.rseq (k := 2) rfl fun K hK => ?_
      simp only [go_sem]
      refine hK _ _ _ ?_
      clear hK K
      refine W.ret ?_
      simp only [go_sem]
      exact e1.next rfl (fun x hx hx' => rfl) (by omega) (by omega)
    clear hK
    refine W.block (W.while (fun m t h n => ∃ (i : Nat) (L : List Lf), m = g.prods.length - i ∧ i ≤ g.prods.length ∧ 0 < n ∧ L.length ≤ 8 * i ∧ L ++ stepsF null (g.prods.zipIdx.drop i) = stepsG g ∧ h 0 = some (.cells [eGr g]) ∧ SlL eLf 2 h 1 n (t 3) L ∧ (t 1 = .ptr 0 0 0 ∧ t 4 = .ro (null.map eFc)) ∧ t 5 = .int .i64 i) g.prods.length
      ⟨0, [], by simp, by simp, by omega, by simp, by rw [hsG]; rfl, by simp only [go_sem], .inl ⟨rfl, rfl⟩, ⟨rfl, rfl⟩, rfl⟩ fun m t h n ⟨i, L, i1, i2, i3, i4, i5, i6, i7, i8, i9⟩ => ?_)
    have i8' := i8
    obtain ⟨a1, a4⟩ := i8'
    refine W.seq ?_
    refine W.rseq (k := 5) rfl fun K hK => ?_
    simp only [go_sem, i9, a1, i6]
    refine hK _ _ _ ?_
    clear hK K
    refine W.cond rfl (fun hc => ?_) fun hc => ?_
    · refine W.skip ?_
      simp only [go_sem]
      have hi : i < g.prods.length := by simp at hc; omega
      obtain ⟨p, hp⟩ := get_some hi
      have hm : p ∈ g.prods := List.mem_of_getElem? hp
      obtain ⟨⟨hl0, hl1⟩, h8, hsy⟩ := h5 p hm
      obtain ⟨R, hR⟩ : ∃ R, R = stepsF null (g.prods.zipIdx.drop (i + 1)) := ⟨_, rfl⟩
      have hF : stepsF null (g.prods.zipIdx.drop i) = stepsP null i p.left.toNat p.right 0 ++ R := by rw [zip_drop hp, hR]; rfl
      rw [hF, ← List.append_assoc] at i5
      refine W.seqk fun K hK => ?_
      have nx : ∀ (t' : Fr) (h' : Heap) (n' : Nat) (L' : List Lf), 0 < n' → L'.length ≤ 8 * i + 8 → L' ++ R = stepsG g → h' 0 = some (.cells [eGr g]) → SlL eLf 2 h' 1 n' (t' 3) L' → (t' 1 = .ptr 0 0 0 ∧ t' 4 = .ro (null.map eFc)) → t' 5 = .int .i64 i → K t' h' n' := by
        intro t' h' n' L' e1 e2 e3 e4 e5 e6 e7
        refine hK _ _ _ ?_
        clear hK K
        refine W.region (k := 3) rfl ?_
        simp only [go_sem, e7]
        refine ⟨g.prods.length - (i + 1), by omega, i + 1, L', rfl, by omega, by omega, by omega, by rw [← hR]; exact e3, e4, e5.next rfl (fun x hx hx' => rfl) (by omega) (Nat.le_refl _), e6, ?_⟩
        rw [wrap64 (by omega) (by omega)]; rfl
      clear hK
      refine W.block ?_
      refine W.rseq (k := 1) rfl fun K hK => ?_
      simp only [go_sem]
      refine hK _ _ _ ?_
      clear hK K
      refine W.block (W.while (fun m t h n => ∃ (k : Nat) (L : List Lf), m = p.right.length - k ∧ k ≤ p.right.length ∧ 0 < n ∧ L.length ≤ 8 * i + k ∧ L ++ (if preB null p.right k = true then stepsP null i p.left.toNat (p.right.drop k) k else []) ++ R = stepsG g ∧ h 0 = some (.cells [eGr g]) ∧ SlL eLf 2 h 1 n (t 3) L ∧ (t 1 = .ptr 0 0 0 ∧ t 4 = .ro (null.map eFc)) ∧ t 5 = .int .i64 i ∧ t 6 = .int .i64 k) p.right.length
        ⟨0, L, by simp, by simp, by omega, by omega, by simpa [preB] using i5, i6, i7.next rfl (fun x hx hx' => rfl) (by omega) (Nat.le_refl _), i8, i9, rfl⟩ fun m t h n ⟨k, L, k1, k2, k3, k4, k5, k6, k7, k8, k9, k10⟩ => ?_)
      clear a1 a4
      have k8' := k8
      obtain ⟨a1, a4⟩ := k8'
      refine W.seq ?_
      refine W.rseq (k := 9) rfl fun K hK => ?_
      simp only [go_sem, k9, k10, a1, k6, hp]
      refine hK _ _ _ ?_
      clear hK K
      refine W.cond rfl (fun hc2 => ?_) fun hc2 => ?_
      · refine W.skip ?_
        simp only [go_sem]
        have hk : k < p.right.length := by simp at hc2; omega
        obtain ⟨sy, hs⟩ := get_some hk
        have hsm := List.mem_of_getElem? hs
        have hsd : p.right.drop k = sy :: p.right.drop (k + 1) := by
          rw [List.drop_eq_getElem_cons hk]
          congr 1
          exact (List.getElem_eq_iff hk).2 hs
        have hpn := pre_next (null := null) hs
        have hsy2 := hsy sy hsm
        have h144 := f144 g hg hr null hnl i k p hp sy hs
        rw [hsd, stepsP] at k5
        refine W.seqk fun K hK => ?_
        have nx2 : ∀ (t' : Fr) (h' : Heap) (n' : Nat) (L' : List Lf), 0 < n' → L'.length ≤ 8 * i + (k + 1) → L' ++ (if preB null p.right (k + 1) = true then stepsP null i p.left.toNat (p.right.drop (k + 1)) (k + 1) else []) ++ R = stepsG g → h' 0 = some (.cells [eGr g]) → SlL eLf 2 h' 1 n' (t' 3) L' → (t' 1 = .ptr 0 0 0 ∧ t' 4 = .ro (null.map eFc)) → t' 5 = .int .i64 i → t' 6 = .int .i64 k → K t' h' n' := by
          intro t' h' n' L' e1 e2 e3 e4 e5 e6 e7 e8
          refine hK _ _ _ ?_
          clear hK K
          refine W.region (k := 3) rfl ?_
          simp only [go_sem, e8]
          refine ⟨p.right.length - (k + 1), by omega, k + 1, L', rfl, by omega, by omega, by omega, by simpa only [List.append_assoc] using e3, e4, e5.next rfl (fun x hx hx' => rfl) (by omega) (Nat.le_refl _), e6, e7, ?_⟩
          rw [wrap64 (by omega) (by omega)]; rfl
        clear hK
        refine W.block ?_
        refine W.rseq (k := 6) rfl fun K hK => ?_
        simp only [go_sem, a1, a4, k6, k9, k10]
        refine VCall.frz 6 h144 rfl ?_
        simp only [go_sem]
        refine hK _ _ _ ?_
        first | clear hK K | clear hK | skip
        cases hq : preB null p.right k && sy.non with
        | false =>
          refine W.condF (by simp only [go_sem]) ?_
          refine W.skip ?_
          simp only [go_sem]
          have hq2 : preB null p.right (k + 1) = false := by rw [hpn, ← Bool.and_assoc, hq]; rfl
          refine nx2 _ _ _ L (by omega) (by omega) ?_ k6 (k7.next rfl (fun x hx hx' => rfl) (by omega) (Nat.le_refl _)) k8 k9 k10
          rw [hq2]
          cases h1 : preB null p.right k
          · rw [h1] at k5; simpa using k5
          · rw [h1, Bool.true_and] at hq
            rw [h1, hq] at k5
            simpa using k5
        | true =>
          rw [Bool.and_eq_true] at hq
          obtain ⟨h1, h2⟩ := hq
          rw [h1, h2, Bool.true_and, Bool.true_and] at hpn
          rw [h1, h2, if_pos rfl, if_pos rfl] at k5
          rw [h2, if_pos rfl] at hsy2
          refine W.condT (by simp only [go_sem]) ?_
          obtain ⟨x, hx⟩ : ∃ x : Lf, x = ⟨i, k, p.left.toNat, sy.n.toNat⟩ := ⟨_, rfl⟩
          have hML : (L ++ [x]).map eLf = L.map eLf ++ [[.int .i64 i, .int .i64 k]] := by rw [List.map_append, hx]; rfl
          have z0 : ∀ j, ¬ 0 = n + j := fun j => by omega
          have hnew : (L ++ [x]) ++ (if preB null p.right (k + 1) = true then stepsP null i p.left.toNat (p.right.drop (k + 1)) (k + 1) else []) ++ R = stepsG g := by
            rw [← k5, hpn, hx]
            by_cases hz : rk null sy.n = 0
            · simp [hz]
            · simp [hz]
          refine W.region (k := 7) rfl ?_
          rcases k7 with ⟨w0, w5⟩ | ⟨b, w5, w1, w2, w3⟩
          · simp only [go_sem, w5, k9, k10, ne_eq, not_false_eq_true, Int.reduceEq, show (0 : Nat) < 1 by omega, show (0 : Nat) < 2 by omega, show (0 : Nat) < 16 by omega]
            refine nx2 _ _ _ (L ++ [x]) (by omega) (by simp; omega) hnew (by simp only [go_sem, z0, k6]) (.inr ⟨n + 20, by rw [w0]; rfl, by omega, by omega, by rw [hML, w0]; simp only [go_sem]; rfl⟩) k8 k9 k10
          · have zb : ∀ j, ¬ b = n + j := fun j => by omega
            have z0b : ¬ 0 = b := by omega
            simp only [go_sem, w5, w3, zb, k9, k10, Nat.lt_irrefl, and_false, if_false, ne_eq, not_false_eq_true, Int.reduceEq, show (0 : Nat) < 1 by omega, show (0 : Nat) < 2 by omega, show (0 : Nat) < 16 by omega, show (L.length + 1) * 16 ≤ 140737488355328 by omega]
            refine nx2 _ _ _ (L ++ [x]) (by omega) (by simp; omega) hnew (by simp only [go_sem, z0, z0b, k6]) (.inr ⟨n + 20, by rw [List.length_append]; rfl, by omega, by omega, by rw [hML]; simp only [go_sem]⟩) k8 k9 k10
      · refine W.exit ?_
        simp only [go_sem]
        have hk : k = p.right.length := by simp at hc2; omega
        subst hk
        rw [List.drop_length, stepsP] at k5
        refine nx _ _ _ L (by omega) (by omega) (by simpa using k5) k6 (k7.next rfl (fun x hx hx' => rfl) (by omega) (Nat.le_refl _)) k8 k9
    · refine W.exit ?_
      simp only [go_sem]
      have hi : i = g.prods.length := by simp at hc; omega
      subst hi
      have hz : g.prods.zipIdx.drop g.prods.length = [] := List.drop_eq_nil_of_le (by simp)
      rw [hz, stepsF, List.flatMap_nil, List.append_nil] at i5
      refine nx0 _ _ _ ?_
      rw [← i5]
      exact i7.next rfl (fun x hx hx' => rfl) (by omega) (Nat.le_refl _)
  obtain ⟨r, h', n', hb, ho⟩ := fin
  exact ⟨_, h', n', hb, 5, fun fr => ho.frz (d := 3) fun x _ => by simp [rfs, rf, eLf]⟩

end Go.Av

