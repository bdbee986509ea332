/-
  Layer 13, the document's answer: a way back. Conditions: none.
-/
import Derived.Test.YtiiogleijmcccaaV2
namespace Go.Av
open Go.Proofs
set_option maxRecDepth 100000
set_option linter.unusedSimpArgs false
set_option linter.unusedVariables false

/-- A table of slices. -/
def tabV (M : Nat) (bv : Nat → AV) : List (List AV) := (List.range M).map fun c => [bv c]

theorem tab_len {M : Nat} {bv : Nat → AV} : (tabV M bv).length = M := by simp [tabV]

theorem tab_get {M a : Nat} {bv : Nat → AV} (h : a < M) : (tabV M bv)[a]? = some [bv a] := by simp [tabV, h]

theorem tab_set {M a : Nat} {bv : Nat → AV} {v : AV} : (tabV M bv).set a [v] = tabV M fun c => if c = a then v else bv c := by
  unfold tabV
  refine List.ext_getElem? fun c => ?_
  rw [List.getElem?_set]
  by_cases hc : c < M
  · by_cases e : a = c
    · subst e; simp [hc]
    · rw [if_neg e]; simp [hc, Ne.symm e]
  · have h1 : ¬ a = c ∨ ¬ a < M := by omega
    by_cases e : a = c
    · subst e; simp [hc]
    · rw [if_neg e]; simp [hc]

theorem tab_nil {M : Nat} : List.replicate M [AV.nils] = tabV M fun _ => .nils := by
  unfold tabV
  refine List.ext_getElem? fun c => ?_
  by_cases hc : c < M <;> simp [hc]

/-- Slices of a table, none of them in the table's block. -/
def SlT (h : Heap) (n B : Nat) (v : AV) (l : List Lf) : Prop := SlL eLf 2 h 1 n v l ∧ ∀ b k, v = .sl b 0 k 2 → b ≠ B

theorem SlT.next {h h' : Heap} {n n' B : Nat} {v : AV} {l : List Lf} (s : SlT h n B v l) (hh : ∀ x, x < n → x ≠ B → h' x = h x) (hn : n ≤ n') : SlT h' n' B v l := by
  refine ⟨?_, s.2⟩
  rcases s.1 with c | ⟨b, c1, c2, c3, c4⟩
  · exact .inl c
  · exact .inr ⟨b, c1, c2, by omega, by rw [hh b c3 (s.2 b _ c1)]; exact c4⟩

theorem stepsP_len {null : List Fc} {i left : Nat} : ∀ (r : List Sy) (k : Nat), (stepsP null i left r k).length ≤ r.length
  | [], k => by simp [stepsP]
  | s :: r, k => by
    rw [stepsP]
    split
    · rw [List.length_cons, List.length_cons]
      split
      · simp
      · have := stepsP_len (null := null) (i := i) (left := left) r (k + 1); omega
    · simp

theorem stepsF_len {null : List Fc} : ∀ (l : List (Pr × Nat)), (∀ x ∈ l, x.1.right.length ≤ 8) → (stepsF null l).length ≤ 8 * l.length
  | [], _ => by simp [stepsF]
  | x :: l, h => by
    have h1 := stepsF_len (null := null) l fun y hy => h y (by simp [hy])
    have h2 := stepsP_len (null := null) (i := x.2) (left := x.1.left.toNat) x.1.right 0
    have h3 := h x (by simp)
    rw [stepsF] at h1 ⊢
    rw [List.flatMap_cons, List.length_append, List.length_cons]
    omega

theorem steps_len {g : Gr} (hr : right g = true) : (stepsG g).length ≤ 480 := by
  obtain ⟨_, _, _, hp60, h5⟩ := right_in hr
  have := stepsF_len (null := ranksL g false) g.prods.zipIdx fun x hx => (h5 x.1 (by obtain ⟨p, i⟩ := x; exact List.fst_mem_of_mem_zipIdx hx)).2.1
  rw [List.length_zipIdx] at this
  rw [stepsG]
  omega

set_option maxHeartbeats 16000000 in
theorem f103 (g : Gr) (hg : g.Small) (hr : right g = true) (non : Nat) (hnon : non < g.nons.toNat) : ∃ l : List Lf, PF pg Tq 103 [.agg (eGr g), .int .i64 non] (.ro (l.map eLf)) ∧ decide (0 < l.length) = cycB g non := by
  obtain ⟨⟨hn1, hn2⟩, _, _, hp60, h5⟩ := right_in hr
  have hLin := steps_in hr
  obtain ⟨M, hM⟩ : ∃ M, M = g.nons.toNat := ⟨_, rfl⟩
  have hMn : g.nons = (M : Int) := by omega
  have hd1 : ¬ ((non : Int) < 0) := by omega
  have hd2 : ¬ ((non : Int) ≥ g.nons) := by omega
  obtain ⟨L, hL⟩ : ∃ L, L = stepsG g := ⟨_, rfl⟩
  have h128 := f128 g hg hr
  rw [← hM, ← hL] at hLin
  rw [← hL] at h128
  have hLl : L.length ≤ 480 := by rw [hL]; exact steps_len hr
  rw [← hM] at hnon
  have fin : FH pg Tq 103 [.agg (eGr g), .int .i64 non] h0 0 fun r h n => ∃ l, SlL eLf 2 h 0 n r l ∧ Bst L non M non l := by
    refine FH.of (N := 117) (rs := #[.tmp 4]) Try.func103 rfl rfl (of_decide_eq_true rfl) rfl (by decide) ?_
    refine W.rseq (k := 2) rfl fun K hK => ?_
    simp only [go_sem]
    refine hK _ _ _ ?_
    clear hK K
    refine W.seq ?_
    refine W.rseq (k := 13) rfl fun K hK => ?_
    simp only [go_sem, hr, decide_eq_false hd1, decide_eq_false hd2]
    refine VCall.frz 6 (f35 g hg) rfl ?_
    try simp only [go_sem, hr, decide_eq_false hd1, decide_eq_false hd2]
    refine hK _ _ _ ?_
    clear hK K
    refine W.condF (by simp only [go_sem]) ?_
    refine W.skip ?_
    simp only [go_sem]
    refine W.rseq (k := 3) rfl fun K hK => ?_
    simp only [go_sem]
    refine VCall.frz 6 h128 rfl ?_
    try simp only [go_sem]
    refine hK _ _ _ ?_
    clear hK K
    refine W.rseq (k := 4) rfl fun K hK => ?_
    simp only [go_sem, show (0 : Int) ≤ g.nons by omega, show g.nons * 24 ≤ 140737488355328 by omega, show (0 : Nat) < 24 by omega, show (0 : Nat) < 1 by omega]
    refine hK _ _ _ ?_
    clear hK K
    refine W.seqk fun K hK => ?_
    refine W.rseq (k := 1) rfl fun K hK => ?_
    simp only [go_sem]
    refine hK _ _ _ ?_
    clear hK K
    rw [← hM, tab_nil]
    have nx0 : ∀ (t' : Fr) (h' : Heap) (n' : Nat) (B : Nat) (bv : Nat → AV) (ls : Nat → List Lf), h' B = some (.cells (tabV M bv)) → (∀ a, a < M → SlL eLf 2 h' 1 n' (bv a) (ls a) ∧ Bst L non M a (ls a)) → t' 6 = .sl B 0 M 1 → t' 1 = .int .i64 non → K t' h' n' := by
      intro t' h' n' B bv ls e1 e2 e3 e4
      refine hK _ _ _ ?_
      clear hK K
      refine W.rseq (k := 5) rfl fun K hK => ?_
      simp only [go_sem, e3, e4, e1, tab_get hnon, show (non : Int) < (M : Int) by omega]
      refine hK _ _ _ ?_
      clear hK K
      refine W.ret ?_
      simp only [go_sem]
      obtain ⟨q1, q2⟩ := e2 non hnon
      exact ⟨ls non, q1.next rfl (fun x hx hx' => rfl) (by omega) (by omega), q2⟩
    clear hK
    refine W.block (W.while (fun m t h n => ∃ (r B : Nat) (bv : Nat → AV) (ls : Nat → List Lf), m = M - r ∧ r ≤ M ∧ 0 < B ∧ B < n ∧ h B = some (.cells (tabV M bv)) ∧ (∀ a, a < M → SlL eLf 2 h 1 n (bv a) (ls a) ∧ Bst L non r a (ls a)) ∧ h 0 = some (.cells [eGr g]) ∧ (t 1 = .int .i64 non ∧ t 2 = .ptr 0 0 0 ∧ t 5 = .ro (L.map eLf)) ∧ t 6 = .sl B 0 M 1 ∧ t 7 = .int .i64 ((r + 1 : Nat) : Int)) M
      ⟨0, 20, fun _ => .nils, fun _ => [], by simp, by omega, by omega, by omega, by simp only [go_sem], fun a ha => ⟨.inl ⟨rfl, rfl⟩, bst_zero⟩, by simp only [go_sem], ⟨rfl, rfl, rfl⟩, rfl, rfl⟩ fun m t h n ⟨r, B, bv, ls, i1, i2, i3, i4, i5, i6, i7, i8, i9, i10⟩ => ?_)
    have i8' := i8
    obtain ⟨a1, a2, a5⟩ := i8'
    refine W.seq ?_
    refine W.rseq (k := 4) rfl fun K hK => ?_
    simp only [go_sem, a2, i7, i10]
    refine hK _ _ _ ?_
    clear hK K
    refine W.cond rfl (fun hc => ?_) fun hc => ?_
    · refine W.skip ?_
      simp only [go_sem]
      have hrM : r < M := by simp at hc; omega
      refine W.seqk fun K hK => ?_
      have nx : ∀ (t' : Fr) (h' : Heap) (n' : Nat) (B : Nat) (bv : Nat → AV) (ls : Nat → List Lf), 0 < B → B < n' → h' B = some (.cells (tabV M bv)) → (∀ a, a < M → SlL eLf 2 h' 1 n' (bv a) (ls a) ∧ Bst L non (r + 1) a (ls a)) → h' 0 = some (.cells [eGr g]) → (t' 1 = .int .i64 non ∧ t' 2 = .ptr 0 0 0 ∧ t' 5 = .ro (L.map eLf)) → t' 6 = .sl B 0 M 1 → t' 7 = .int .i64 ((r + 1 : Nat) : Int) → K t' h' n' := by
        intro t' h' n' B bv ls e1 e2 e3 e4 e5 e6 e7 e8
        refine hK _ _ _ ?_
        clear hK K
        refine W.region (k := 3) rfl ?_
        simp only [go_sem, e8]
        refine ⟨M - (r + 1), by omega, r + 1, B, bv, ls, rfl, by omega, e1, by omega, e3, fun a ha => ⟨(e4 a ha).1.next rfl (fun x hx hx' => rfl) (by omega) (Nat.le_refl _), (e4 a ha).2⟩, e5, e6, e7, ?_⟩
        rw [wrap64 (by omega) (by omega)]; rfl
      clear hK
      refine W.block ?_
      have hM0 : ¬ M = 0 := by omega
      have zB : ∀ j, ¬ B = n + j := fun j => by omega
      have z0 : ∀ j, ¬ 0 = n + j := fun j => by omega
      have tk : (tabV M bv).take M = tabV M bv := List.take_of_length_le (by rw [tab_len]; exact Nat.le_refl _)
      have te : (tabV M bv).isEmpty = false := by
        rw [List.isEmpty_eq_false_iff]
        intro e
        have := tab_len (M := M) (bv := bv)
        rw [e] at this
        simp at this
        omega
      refine W.rseq (k := 4) rfl fun K hK => ?_
      simp only [go_sem, i9, i5, tk, te, tab_len, hM0, zB, show M * 24 ≤ 140737488355328 by omega, Bool.false_eq_true, if_false]
      refine hK _ _ _ ?_
      clear hK K
      obtain ⟨B8, hB8⟩ : ∃ B8, B8 = n + 6 := ⟨_, rfl⟩
      rw [← hB8]
      have z08 : ¬ 0 = B8 := by omega
      have zB8 : ¬ B = B8 := by omega
      refine W.seqk fun K hK => ?_
      refine W.rseq (k := 1) rfl fun K hK => ?_
      simp only [go_sem]
      refine hK _ _ _ ?_
      clear hK K
      have nx1 : ∀ (t' : Fr) (h' : Heap) (n' : Nat) (bv' : Nat → AV) (ls' : Nat → List Lf), B8 < n' → h' B8 = some (.cells (tabV M bv')) → (∀ a, a < M → SlT h' n' B8 (bv' a) (ls' a) ∧ Bst L non (r + 1) a (ls' a)) → h' 0 = some (.cells [eGr g]) → (t' 1 = .int .i64 non ∧ t' 2 = .ptr 0 0 0 ∧ t' 5 = .ro (L.map eLf)) → t' 8 = .sl B8 0 M 1 → t' 7 = .int .i64 ((r + 1 : Nat) : Int) → K t' h' n' := by
        intro t' h' n' bv' ls' e1 e2 e3 e4 e5 e6 e7
        refine hK _ _ _ ?_
        clear hK K
        refine W.region (k := 2) rfl ?_
        simp only [go_sem, e6]
        refine nx _ _ _ B8 bv' ls' (by omega) (by omega) e2 (fun a ha => ⟨(e3 a ha).1.1.next rfl (fun x hx hx' => rfl) (by omega) (Nat.le_refl _), (e3 a ha).2⟩) e4 e5 rfl e7
      clear hK nx
      refine W.block (W.while (fun m t h1 n1 => ∃ (a : Nat) (bv' : Nat → AV) (ls' : Nat → List Lf), m = M - a ∧ a ≤ M ∧ B8 < n1 ∧ (∀ x, x < B8 → h1 x = h x) ∧ h1 B8 = some (.cells (tabV M bv')) ∧ (∀ c, c < M → SlT h1 n1 B8 (bv' c) (ls' c)) ∧ (∀ c, c < a → Bst L non (r + 1) c (ls' c)) ∧ (∀ c, a ≤ c → ls' c = ls c) ∧ (t 1 = .int .i64 non ∧ t 2 = .ptr 0 0 0 ∧ t 5 = .ro (L.map eLf) ∧ t 6 = .sl B 0 M 1 ∧ t 7 = .int .i64 ((r + 1 : Nat) : Int) ∧ t 8 = .sl B8 0 M 1) ∧ t 9 = .int .i64 a) M
        ⟨0, bv, ls, by simp, by omega, by omega, fun x hx => by simp only [go_sem, show ¬ x = B8 by omega], by simp only [go_sem], fun c hc => ⟨(i6 c hc).1.next rfl (fun x hx hx' => by simp only [go_sem, show ¬ x = B8 by omega]) (by omega) (Nat.le_refl _), fun b k hb => ?_⟩, fun c hc => by omega, fun c hc => rfl, ⟨a1, a2, a5, i9, i10, rfl⟩, rfl⟩ fun m t h1 n1 ⟨a, bv', ls', j1, j2, j3, j4, j5, j6, j7, j8, j9, j10⟩ => ?_)
      · rcases (i6 c hc).1 with ⟨_, e⟩ | ⟨b', e, _, hb', _⟩
        · rw [e] at hb; cases hb
        · rw [e] at hb; cases hb; omega
      clear a1 a2 a5
      have j9' := j9
      obtain ⟨a1, a2, a5, a6, a7, a8⟩ := j9'
      have j40 := j4 0 (by omega)
      rw [i7] at j40
      refine W.seq ?_
      refine W.rseq (k := 4) rfl fun K hK => ?_
      simp only [go_sem, a2, j40, j10]
      refine hK _ _ _ ?_
      clear hK K
      refine W.cond rfl (fun hc2 => ?_) fun hc2 => ?_
      · refine W.skip ?_
        simp only [go_sem]
        have haM : a < M := by simp at hc2; omega
        refine W.seqk fun K hK => ?_
        have nx2 : ∀ (t' : Fr) (h' : Heap) (n' : Nat) (bv' : Nat → AV) (ls' : Nat → List Lf), B8 < n' → (∀ x, x < B8 → h' x = h x) → h' B8 = some (.cells (tabV M bv')) → (∀ c, c < M → SlT h' n' B8 (bv' c) (ls' c)) → (∀ c, c < a + 1 → Bst L non (r + 1) c (ls' c)) → (∀ c, a < c → ls' c = ls c) → (t' 1 = .int .i64 non ∧ t' 2 = .ptr 0 0 0 ∧ t' 5 = .ro (L.map eLf) ∧ t' 6 = .sl B 0 M 1 ∧ t' 7 = .int .i64 ((r + 1 : Nat) : Int) ∧ t' 8 = .sl B8 0 M 1) → t' 9 = .int .i64 a → K t' h' n' := by
          intro t' h' n' bv' ls' e1 e2 e3 e4 e5 e6 e7 e8
          refine hK _ _ _ ?_
          clear hK K
          refine W.region (k := 3) rfl ?_
          simp only [go_sem, e8]
          refine ⟨M - (a + 1), by omega, a + 1, bv', ls', rfl, by omega, by omega, e2, e3, fun c hc => (e4 c hc).next (fun x hx hx' => rfl) (by omega), e5, fun c hc => e6 c (by omega), e7, ?_⟩
          rw [wrap64 (by omega) (by omega)]; rfl
        clear hK
        refine W.block ?_
        refine W.rseq (k := 1) rfl fun K hK => ?_
        simp only [go_sem]
        refine hK _ _ _ ?_
        clear hK K
        refine W.block (W.while (fun m t h1 n1 => ∃ (j : Nat) (bv' : Nat → AV) (ls' : Nat → List Lf), m = L.length - j ∧ j ≤ L.length ∧ B8 < n1 ∧ (∀ x, x < B8 → h1 x = h x) ∧ h1 B8 = some (.cells (tabV M bv')) ∧ (∀ c, c < M → SlT h1 n1 B8 (bv' c) (ls' c)) ∧ (∀ c, c < a → Bst L non (r + 1) c (ls' c)) ∧ (∀ c, a < c → ls' c = ls c) ∧ ((ls' a ≠ [] → Bst L non (r + 1) a (ls' a)) ∧ (ls' a = [] → ls a = [] ∧ ∀ x ∈ L.take j, x.frm = a → ¬ Tk ls non r x)) ∧ (t 1 = .int .i64 non ∧ t 2 = .ptr 0 0 0 ∧ t 5 = .ro (L.map eLf) ∧ t 6 = .sl B 0 M 1 ∧ t 7 = .int .i64 ((r + 1 : Nat) : Int) ∧ t 8 = .sl B8 0 M 1) ∧ t 9 = .int .i64 a ∧ t 10 = .int .i64 j) L.length
          ⟨0, bv', ls', by simp, by omega, by omega, j4, j5, fun c hc => (j6 c hc).next (fun x hx hx' => rfl) (by omega), j7, fun c hc => j8 c (by omega), ⟨fun hne => ?_, fun he => ⟨by rw [← j8 a (Nat.le_refl _)]; exact he, fun x hx => by cases hx⟩⟩, j9, j10, rfl⟩ fun m t h1 n1 ⟨j, bv', ls', k1, k2, k3, k4, k5, k6, k7, k8, k9, k10, k11, k12⟩ => ?_)
        · have := j8 a (Nat.le_refl _)
          rw [this] at hne ⊢
          exact (i6 a haM).2.up hne
        clear a1 a2 a5 a6 a7 a8 j40
        have k10' := k10
        obtain ⟨a1, a2, a5, a6, a7, a8⟩ := k10'
        have k40 := k4 0 (by omega)
        rw [i7] at k40
        have kB := k4 B (by omega)
        rw [i5] at kB
        refine W.seq ?_
        refine W.rseq (k := 12) rfl fun K hK => ?_
        have nx3 : ∀ (t' : Fr) (n' : Nat), n1 ≤ n' → (t' 1 = .int .i64 non ∧ t' 2 = .ptr 0 0 0 ∧ t' 5 = .ro (L.map eLf) ∧ t' 6 = .sl B 0 M 1 ∧ t' 7 = .int .i64 ((r + 1 : Nat) : Int) ∧ t' 8 = .sl B8 0 M 1) → t' 9 = .int .i64 a → t' 10 = .int .i64 j → t' 56 = .bool (decide (j < L.length) && decide ((ls' a).length = 0)) → K t' h1 n' := by
          intro t' n' e1 e2 e3 e4 e5
          refine hK _ _ _ ?_
          clear hK K
          by_cases hgo : j < L.length ∧ (ls' a).length = 0
          · have e5' : t' 56 = .bool true := by rw [e5, decide_eq_true hgo.1, decide_eq_true hgo.2]; rfl
            refine W.condT (by simp only [go_sem, e5']) ?_
            refine W.skip ?_
            simp only [go_sem]
            obtain ⟨hj, hle⟩ := hgo
            have hle : ls' a = [] := List.length_eq_zero_iff.1 hle
            obtain ⟨x, hx⟩ := get_some hj
            have hxm : x ∈ stepsG g := by rw [← hL]; exact List.mem_of_getElem? hx
            obtain ⟨p, s, hp, hs, q1, q2, q3⟩ := steps_at hxm
            have hpl : p.left = (x.frm : Int) := by have := (h5 p (List.mem_of_getElem? hp)).1.1; omega
            have h129 := f129 g hg hr x hxm
            obtain ⟨r1, r2⟩ := k9.2 hle
            have hBa := (i6 a haM).2
            rw [r1] at hBa
            have ht1 : L.take (j + 1) = L.take j ++ [x] := by rw [List.take_add_one, hx]; rfl
            have hxt : x.to < M := by rw [hM]; exact (steps_in hr x hxm).2
            have z0 : ∀ j, ¬ 0 = n' + j := fun j => by omega
            have zB : ∀ j, ¬ B = n' + j := fun j => by omega
            have z8 : ∀ j, ¬ B8 = n' + j := fun j => by omega
            refine W.seqk fun K hK => ?_
            have nxQ : ∀ (t'' : Fr) (h'' : Heap) (n'' : Nat), n' ≤ n'' → (∀ y, y < n' → h'' y = h1 y) → (t'' 1 = .int .i64 non ∧ t'' 2 = .ptr 0 0 0 ∧ t'' 5 = .ro (L.map eLf) ∧ t'' 6 = .sl B 0 M 1 ∧ t'' 7 = .int .i64 ((r + 1 : Nat) : Int) ∧ t'' 8 = .sl B8 0 M 1) → t'' 9 = .int .i64 a → t'' 10 = .int .i64 j → (x.frm = a → ¬ Tk ls non r x) → K t'' h'' n'' := by
              intro t'' h'' n'' f1 f2 f3 f4 f5 f6
              refine hK _ _ _ ?_
              clear hK K
              refine W.region (k := 3) rfl ?_
              simp only [go_sem, f5]
              refine ⟨L.length - (j + 1), by omega, j + 1, bv', ls', rfl, by omega, by omega, fun y hy => by rw [f2 y (by omega)]; exact k4 y hy, by rw [f2 B8 (by omega)]; exact k5, fun c hc => (k6 c hc).next (fun y hy hy' => f2 y (by omega)) (by omega), k7, k8, ⟨k9.1, fun he => ⟨r1, fun y hy => ?_⟩⟩, f3, f4, ?_⟩
              · rw [ht1] at hy
                rcases List.mem_append.1 hy with hy | hy
                · exact r2 y hy
                · rw [List.mem_singleton.1 hy]; exact f6
              · rw [wrap64 (by omega) (by omega)]; rfl
            have nxS : ∀ (t'' : Fr) (h'' : Heap) (n'' : Nat) (v : AV) (l : List Lf), n' ≤ n'' → (∀ y, y < n' → y ≠ B8 → h'' y = h1 y) → h'' B8 = some (.cells (tabV M fun c => if c = a then v else bv' c)) → SlT h'' n'' B8 v l → l.length = r + 1 → Pth L a non l → (t'' 1 = .int .i64 non ∧ t'' 2 = .ptr 0 0 0 ∧ t'' 5 = .ro (L.map eLf) ∧ t'' 6 = .sl B 0 M 1 ∧ t'' 7 = .int .i64 ((r + 1 : Nat) : Int) ∧ t'' 8 = .sl B8 0 M 1) → t'' 9 = .int .i64 a → t'' 10 = .int .i64 j → K t'' h'' n'' := by
              intro t'' h'' n'' v l f1 f2 f3 f4 f5 f6 f7 f8 f9
              refine hK _ _ _ ?_
              clear hK
              refine W.region (k := 3) rfl ?_
              simp only [go_sem, f9]
              refine ⟨L.length - (j + 1), by omega, j + 1, _, (fun c => if c = a then l else ls' c), rfl, by omega, by omega, fun y hy => by rw [f2 y (by omega) (by omega)]; exact k4 y hy, f3, fun c hc => ?_, fun c hc => ?_, fun c hc => ?_, ⟨fun _ => ?_, fun he => ?_⟩, f7, f8, ?_⟩
              · by_cases e : c = a
                · simp only [e, if_true]; exact f4.next (fun y hy hy' => rfl) (by omega)
                · simp only [e, if_false]; exact (k6 c hc).next (fun y hy hy' => f2 y (by omega) hy') (by omega)
              · simp only [show ¬ c = a by omega, if_false]; exact k7 c hc
              · simp only [show ¬ c = a by omega, if_false]; exact k8 c hc
              · simp only [if_true]; exact hBa.new f5 f6
              · simp only [if_true] at he; rw [he] at f5; cases f5
              · rw [wrap64 (by omega) (by omega)]; rfl
            clear hK
            refine W.block ?_
            clear a1 a2 a5 a6 a7 a8
            have e1' := e2
            obtain ⟨a1, a2, a5, a6, a7, a8⟩ := e1'
            refine W.rseq (k := 6) rfl fun K hK => ?_
            simp only [go_sem, a5, e4, hx]
            refine hK _ _ _ ?_
            clear hK K
            refine W.seq ?_
            refine W.rseq (k := 9) rfl fun K hK => ?_
            simp only [go_sem, a2, e3, z0, k40, hp, hpl]
            refine hK _ _ _ ?_
            clear hK K
            by_cases hfa : ¬ x.frm = a
            · refine W.condT (by simp only [go_sem, decide_eq_false (show ¬ (x.frm : Int) = (a : Int) by omega)]) ?_
              refine W.exit ?_
              simp only [go_sem]
              exact nxQ _ _ _ (by omega) (fun y hy => by simp only [go_sem, show ¬ y = n' + 4 by omega]) e2 e3 e4 (fun e => absurd e hfa)
            have hfa : x.frm = a := Decidable.not_not.1 hfa
            refine W.condF (by simp only [go_sem, decide_eq_true (show (x.frm : Int) = (a : Int) by omega)]) ?_
            refine W.skip ?_
            simp only [go_sem]
            by_cases hr0 : r = 0
            · subst hr0
              refine W.seq ?_
              refine W.rseq (k := 9) rfl fun K hK => ?_
              simp only [go_sem, a7, a2, z0, k40, decide_eq_true (show ((0 + 1 : Nat) : Int) = 1 by omega)]
              refine VCall.frz 6 h129 rfl ?_
              by_cases hto : x.to = non
              · simp only [go_sem, a1, decide_eq_true (show (x.to : Int) = (non : Int) by omega)]
                refine hK _ _ _ ?_
                first | clear hK K | clear hK | skip
                refine W.condT (by simp only [go_sem]) ?_
                refine W.region (k := 6) rfl ?_
                simp only [go_sem, a8, e3, z8, k5, tab_get haM, tab_len, show (a : Int) < (M : Int) by omega]
                refine W.rseq (k := 14) rfl fun K hK => ?_
                simp only [go_sem, a7]
                refine hK _ _ _ ?_
                clear hK K
                refine W.condF (by simp only [go_sem]) ?_
                refine W.skip ?_
                simp only [go_sem]
                refine nxS _ _ _ (.sl (n' + 27) 0 1 2) [x] (by omega) (fun y hy hy8 => by simp only [go_sem, show ∀ j, ¬ y = n' + j from fun j => by omega, hy8]) (by simp only [go_sem, ← tab_set]) ⟨.inr ⟨n' + 27, rfl, by omega, by omega, by simp only [go_sem, show ¬ n' + 27 = B8 by omega]; rfl⟩, fun b k hb => by cases hb; omega⟩ rfl ⟨by rw [hL]; exact hxm, hfa, hto⟩ e2 e3 e4
              · simp only [go_sem, a1, decide_eq_false (show ¬ (x.to : Int) = (non : Int) by omega)]
                refine hK _ _ _ ?_
                first | clear hK K | clear hK | skip
                refine W.condF (by simp only [go_sem]) ?_
                refine W.skip ?_
                simp only [go_sem]
                refine W.rseq (k := 14) rfl fun K hK => ?_
                simp only [go_sem, a7]
                refine hK _ _ _ ?_
                clear hK K
                refine W.condF (by simp only [go_sem]) ?_
                refine W.skip ?_
                simp only [go_sem]
                exact nxQ _ _ _ (by omega) (fun y hy => by simp only [go_sem, show ∀ j, ¬ y = n' + j from fun j => by omega]) e2 e3 e4 (fun _ hT => by rcases hT with ⟨_, h⟩ | ⟨h, _⟩ <;> omega)
            · refine W.seq ?_
              refine W.rseq (k := 9) rfl fun K hK => ?_
              simp only [go_sem, a7, decide_eq_false (show ¬ ((r + 1 : Nat) : Int) = 1 by omega)]
              refine hK _ _ _ ?_
              clear hK K
              refine W.condF (by simp only [go_sem]) ?_
              refine W.skip ?_
              simp only [go_sem]
              refine W.rseq (k := 14) rfl fun K hK => ?_
              simp only [go_sem, a7, a2, z0, k40, a6, zB, kB, decide_eq_true (show ((r + 1 : Nat) : Int) > 1 by omega)]
              refine VCall.frz 6 h129 rfl ?_
              have hxM : (x.to : Int) < (M : Int) := by omega
              have hw1 : IntKind.wrap .i64 (((r + 1 : Nat) : Int) - 1) = r := by rw [wrap64 (by omega) (by omega)]; omega
              rcases (i6 x.to hxt).1 with ⟨w0, w5⟩ | ⟨b, w5, w1, w2, w3⟩
              · simp only [go_sem, a6, zB, kB, tab_get hxt, hxM, w5, a7, hw1, decide_eq_false (show ¬ (0 : Int) = (r : Int) by omega)]
                refine hK _ _ _ ?_
                first | clear hK K | clear hK | skip
                refine W.condF (by simp only [go_sem]) ?_
                refine W.skip ?_
                simp only [go_sem]
                exact nxQ _ _ _ (by omega) (fun y hy => by simp only [go_sem, show ∀ j, ¬ y = n' + j from fun j => by omega]) e2 e3 e4 (fun _ hT => by
                  rcases hT with ⟨h, _⟩ | ⟨_, h⟩
                  · omega
                  · rw [w0] at h; simp at h; omega)
              · by_cases hlr : (ls x.to).length = r
                · simp only [go_sem, a6, zB, kB, tab_get hxt, hxM, w5, a7, hw1, decide_eq_true (show ((ls x.to).length : Int) = (r : Int) by omega)]
                  refine hK _ _ _ ?_
                  first | clear hK K | clear hK | skip
                  refine W.condT (by simp only [go_sem]) ?_
                  have hkb := k4 b (by omega)
                  rw [w3] at hkb
                  have zb : ∀ j, ¬ b = n' + j := fun j => by omega
                  have hxb := (i6 x.to hxt).2.1 (fun e => by rw [e] at hlr; simp at hlr; omega)
                  have l0 : ∀ j, (0 < n' + j) = True := fun j => eq_true (by omega)
                  have lB : ∀ j, (B < n' + j) = True := fun j => eq_true (by omega)
                  have lb : ∀ j, (b < n' + j) = True := fun j => eq_true (by omega)
                  refine W.draw (k := 13) rfl ?_
                  simp only [go_sem, l0, lB, lb, a8, e3, a6, a2, z0, k40]
                  refine VCall.frz 6 h129 rfl ?_
                  have tk2 : (List.map eLf (ls x.to)).take (ls x.to).length = List.map eLf (ls x.to) := List.take_of_length_le (by simp)
                  simp only [go_sem, l0, lB, lb, a6, zB, z8, zb, kB, tab_get hxt, tab_get haM, hxM, w5, hkb, k5, tk2, List.length_map, show (1 + (ls x.to).length) * 16 ≤ 140737488355328 by omega, and_false, if_false, show n' ≤ n' + 3 by omega, if_true, show (a : Int) < (M : Int) by omega]
                  refine ⟨by kernel_rfl, ?_⟩
                  refine nxS _ _ _ (.sl (n' + 48) 0 (1 + (ls x.to).length) 2) (x :: ls x.to) (by omega) (fun y hy hy8 => by simp only [go_sem, show ∀ j, ¬ y = n' + j from fun j => by omega, hy8]) (by simp only [go_sem, ← tab_set]) ⟨.inr ⟨n' + 48, by rw [List.length_cons, Nat.add_comm (ls x.to).length], by omega, by omega, by simp only [go_sem, show ¬ n' + 48 = B8 by omega]; rfl⟩, fun b k hb => by cases hb; omega⟩ (by rw [List.length_cons, hlr]) ⟨by rw [hL]; exact hxm, hfa, hxb.2⟩ e2 e3 e4
                · simp only [go_sem, a6, zB, kB, tab_get hxt, hxM, w5, a7, hw1, decide_eq_false (show ¬ ((ls x.to).length : Int) = (r : Int) by omega)]
                  refine hK _ _ _ ?_
                  first | clear hK K | clear hK | skip
                  refine W.condF (by simp only [go_sem]) ?_
                  refine W.skip ?_
                  simp only [go_sem]
                  exact nxQ _ _ _ (by omega) (fun y hy => by simp only [go_sem, show ∀ j, ¬ y = n' + j from fun j => by omega]) e2 e3 e4 (fun _ hT => by rcases hT with ⟨h, _⟩ | ⟨_, h⟩ <;> omega)
          · have e5' : t' 56 = .bool false := by
              rw [e5]
              by_cases h1 : j < L.length
              · rw [decide_eq_false (fun h2 => hgo ⟨h1, h2⟩), Bool.and_false]
              · rw [decide_eq_false h1]; rfl
            refine W.condF (by simp only [go_sem, e5']) ?_
            refine W.exit ?_
            simp only [go_sem]
            refine nx2 _ _ _ bv' ls' (by omega) k4 k5 (fun c hc => (k6 c hc).next (fun x hx hx' => rfl) (by omega)) (fun c hc => ?_) k8 e2 e3
            by_cases e : c = a
            · subst e
              by_cases hne : ls' c = []
              · obtain ⟨q1, q2⟩ := k9.2 hne
                rw [hne]
                refine Bst.none hLin (fun b hb => (i6 b hb).2) haM q1 ?_
                have hj : j = L.length := by
                  by_cases h1 : j < L.length
                  · exact absurd ⟨h1, by rw [hne]; rfl⟩ hgo
                  · omega
                rw [hj, List.take_length] at q2
                exact q2
              · exact k9.1 hne
            · exact k7 c (by omega)
        clear hK
        by_cases hj : j < L.length
        · have hja : (a : Int) < (M : Int) := by omega
          rcases (k6 a haM).1 with ⟨w0, w5⟩ | ⟨b, w5, w1, w2, w3⟩
          · simp only [go_sem, k11, k12, a5, a8, k5, decide_eq_true (show (j : Int) < (L.length : Int) by omega), tab_get haM, hja, w5]
            exact nx3 _ _ (by omega) k10 k11 k12 (by rw [decide_eq_true hj, w0]; rfl)
          · simp only [go_sem, k11, k12, a5, a8, k5, decide_eq_true (show (j : Int) < (L.length : Int) by omega), tab_get haM, hja, w5]
            exact nx3 _ _ (by omega) k10 k11 k12 (by rw [decide_eq_true hj, Bool.true_and]; exact congrArg AV.bool (decide_eq_decide.2 (by omega)))
        · simp only [go_sem, k12, a5, decide_eq_false (show ¬ (j : Int) < (L.length : Int) by omega)]
          exact nx3 _ _ (by omega) k10 k11 k12 (by rw [decide_eq_false hj]; rfl)
      · refine W.exit ?_
        simp only [go_sem]
        have haM : a = M := by simp at hc2; omega
        subst haM
        refine nx1 _ _ _ bv' ls' (by omega) j5 (fun c hc => ⟨(j6 c hc).next (fun x hx hx' => rfl) (by omega), j7 c hc⟩) j40 ⟨a1, a2, a5⟩ a8 a7
    · refine W.exit ?_
      simp only [go_sem]
      have hrM : r = M := by simp at hc; omega
      subst hrM
      exact nx0 _ _ _ B bv ls i5 (fun a ha => ⟨(i6 a ha).1.next rfl (fun x hx hx' => rfl) (by omega) (Nat.le_refl _), (i6 a ha).2⟩) i9 a1
  obtain ⟨r, h', n', hb, l, ho, hw⟩ := fin
  rw [hM, hL] at hw
  exact ⟨l, ⟨_, h', n', hb, 5, fun fr => ho.frz (d := 3) fun x _ => by simp [rfs, rf, eLf]⟩, bst_cyc hr hw⟩

end Go.Av

