/-
  Layer 13, package left: how far away. Conditions: none.
-/
import Derived.Test.YtiiogleijmcccaaU1
namespace Go.Av
open Go.Proofs
set_option maxRecDepth 100000
set_option linter.unusedSimpArgs false
set_option linter.unusedVariables false

theorem aw_start {L : List Lf} {M to : Nat} (h : to < M) : Aw L M to ((List.replicate M (-1)).set to 0) := by
  have hl : to < (List.replicate M (-1 : Int)).length := by simpa using h
  have hr : ∀ n, (List.replicate M (-1 : Int)).getD n (-1) = -1 := fun n => by
    rw [List.getD_eq_getElem?_getD, List.getElem?_replicate]; split <;> rfl
  have hc : ((List.replicate M (-1 : Int)).set to 0).countP (fun d => decide (0 ≤ d)) = 1 := by
    rw [countP_set hl (by simp), hr, List.countP_replicate]
    simp
  refine ⟨by simp, ?_, fun n => ?_, fun n => ?_, fun n => ?_, fun n => ?_⟩
  · rw [getD_set hl, if_pos rfl]
  · rw [getD_set hl, hr]; split <;> omega
  · rw [getD_set hl, hr]; split
    · intro _; assumption
    · intro h; omega
  · rw [getD_set hl, hr, hc]; split <;> omega
  · rw [getD_set hl, hr]; split <;> omega

theorem getI_some {a : List Int} {n : Nat} (h : n < a.length) : a[n]? = some (a.getD n (-1)) := by simp [h]

theorem aw_lt {L : List Lf} {M to : Nat} {a : List Int} (h : Aw L M to a) (n : Nat) : a.getD n (-1) < M := by
  have := h.cnt n
  have h2 : a.countP (fun d => decide (0 ≤ d)) ≤ M := by rw [← h.len]; exact List.countP_le_length
  omega

theorem map_setI {a : List Int} {i : Nat} {v : Int} : (a.map eIn).set i [.int .i64 v] = (a.set i v).map eIn := (List.map_set (f := eIn)).symm

theorem SlL.len {α : Type} {e : α → List AV} {sz lo : Nat} {h : Heap} {n : Nat} {v : AV} {l : List α} (s : SlL e sz h lo n v l) : (∀ h' n0, aLen h' n0 v = some (.P, .int .i64 l.length, [])) ∧ ∀ a b p q k z o, lenT ⟨a, b, .slice p q k, z, o⟩ v = true := by
  rcases s with ⟨rfl, rfl⟩ | ⟨b, rfl, _⟩
  · exact ⟨fun _ _ => rfl, fun _ _ _ _ _ _ _ => rfl⟩
  · exact ⟨fun _ _ => rfl, fun _ _ _ _ _ _ _ => rfl⟩

set_option maxHeartbeats 8000000 in
theorem f105 (g : Gr) (hg : g.Small) (hr : right g = true) (to : Nat) (hto : to < g.nons.toNat) (lo : Nat) (h : Heap) (n : Nat) (lv : AV) (mb : Nat) (hS : StMem g lo h n lv mb) : FH pg Tq 105 [.agg (eGr g), .int .i64 to, lv, .mp mb] h n fun res h' n' => n ≤ n' ∧ (∀ x, x < n → h' x = h x) ∧ ∃ a B, Aw (stepsG g) g.nons.toNat to a ∧ AwCl (stepsG g) a ∧ res = .sl B 0 g.nons.toNat 1 ∧ n ≤ B ∧ B < n' ∧ h' B = some (.cells (a.map eIn)) := by
  obtain ⟨⟨hn1, hn2⟩, _, _, hp60, h5⟩ := right_in hr
  have hLin := steps_in hr
  obtain ⟨M, hM⟩ : ∃ M, M = g.nons.toNat := ⟨_, rfl⟩
  have hMn : g.nons = (M : Int) := by omega
  obtain ⟨L, hL⟩ : ∃ L, L = stepsG g := ⟨_, rfl⟩
  obtain ⟨s1, s2, s3, hUq, hLl, s4⟩ := hS
  rw [← hM] at hto hLin ⊢
  rw [← hL] at hLin s3 s4 hUq hLl ⊢
  have hlen := s4.len
  obtain ⟨B, hB⟩ : ∃ B, B = n + 4 := ⟨_, rfl⟩
  have znB : ¬ n = B := by omega
  have zmn : ¬ mb = n := by omega
  have zmB : ¬ mb = B := by omega
  refine FH.of (N := 74) (rs := #[.tmp 8]) Try.func105 rfl rfl (of_decide_eq_true rfl) rfl (by decide) ?_
  refine W.rseq (k := 2) rfl fun K hK => ?_
  simp only [go_sem]
  refine hK _ _ _ ?_
  clear hK K
  refine W.rseq (k := 4) rfl fun K hK => ?_
  simp only [go_sem, hMn, show (0 : Int) ≤ (M : Int) by omega, show (M : Int) * 8 ≤ 140737488355328 by omega, show (0 : Nat) < 8 by omega, show (0 : Nat) < 1 by omega]
  refine hK _ _ _ ?_
  clear hK K
  refine W.seq ?_
  refine W.rseq (k := 3) rfl fun K hK => ?_
  simp only [go_sem]
  refine hK _ _ _ ?_
  clear hK K
  rw [← hB]
  refine W.block (W.while (fun m t h1 n1 => ∃ (i : Nat) (c : List Int), m = M - i ∧ i ≤ M ∧ B < n1 ∧ (∀ x, x < n → h1 x = h x) ∧ c.length = M ∧ (∀ j, j < i → c[j]? = some (-1)) ∧ h1 B = some (.cells (c.map eIn)) ∧ (t 1 = .int .i64 to ∧ t 2 = lv ∧ t 3 = .mp mb ∧ t 9 = .sl B 0 M 1) ∧ t 20 = .int .i64 M ∧ t 21 = .int .i64 i) M
    ⟨0, List.replicate M 0, by simp, by simp, by omega, fun x hx => by simp only [go_sem, show ¬ x = n by omega, show ¬ x = B by omega], by simp, fun j hj => by omega, by simp [upd, eIn], ⟨rfl, rfl, rfl, by simp only [go_sem, hB]⟩, by simp only [go_sem, hMn], rfl⟩ fun m t h1 n1 ⟨i, c, i1, i2, i3, i4, i5, i5', i6, i7, i8, i9⟩ => ?_)
  refine W.rseq (k := 1) rfl fun K hK => ?_
  simp only [go_sem, i8, i9]
  refine hK _ _ _ ?_
  clear hK K
  refine W.seq ?_
  refine W.cond rfl (fun hc => ?_) fun hc => ?_
  · refine W.skip ?_
    simp only [go_sem]
    have hi : i < M := by simp at hc; omega
    have i7' := i7
    obtain ⟨a1, a2, a3, a9⟩ := i7'
    obtain ⟨z, hz⟩ := get_some (l := c) (k := i) (by omega)
    refine W.seq (W.block ?_)
    refine W.rseq (k := 2) rfl fun K hK => ?_
    simp only [go_sem, i9]
    refine hK _ _ _ ?_
    clear hK K
    refine W.region (k := 4) rfl ?_
    simp only [go_sem, a9, i6, hz, eIn, show (i : Int) < (M : Int) by omega]
    refine W.region (k := 2) rfl ?_
    simp only [go_sem, i9]
    refine ⟨M - (i + 1), by omega, i + 1, c.set i (-1), rfl, by omega, by omega, fun x hx => by simp only [go_sem, show ¬ x = B by omega]; exact i4 x hx, by simpa using i5, fun j hj => ?_, by rw [← map_setI], i7, i8, ?_⟩
    · rw [List.getElem?_set]
      split
      · rename_i e
        subst e
        rw [if_pos (by omega)]
      · exact i5' j (by omega)
    · rw [wrap64 (by omega) (by omega)]; rfl
  · refine W.exit ?_
    simp only [go_sem]
    have hi : i = M := by simp at hc; omega
    subst hi
    have hc' : c = List.replicate i (-1) := by
      refine List.ext_getElem? fun j => ?_
      rw [List.getElem?_replicate]
      split
      · exact i5' j (by assumption)
      · exact List.getElem?_eq_none (by omega)
    have i7' := i7
    obtain ⟨a1, a2, a3, a9⟩ := i7'
    obtain ⟨z, hz⟩ := get_some (l := c) (k := to) (by omega)
    refine W.rseq (k := 4) rfl fun K hK => ?_
    simp only [go_sem, a1, a9, i6, hz, eIn, show (to : Int) < (i : Int) by omega]
    refine hK _ _ _ ?_
    clear hK K
    refine W.seqk fun K hK => ?_
    refine W.rseq (k := 1) rfl fun K hK => ?_
    simp only [go_sem]
    refine hK _ _ _ ?_
    clear hK K
    have aw0 := aw_start (L := L) hto
    rw [← hc'] at aw0
    have nx : ∀ (t' : Fr) (h' : Heap) (n' : Nat) (a : List Int), B < n' → (∀ x, x < n → h' x = h x) → h' B = some (.cells (a.map eIn)) → t' 9 = .sl B 0 i 1 → Aw L i to a → AwCl L a → K t' h' n' := by
      intro t' h' n' a e1 e2 e3 e4 e5 e6
      refine hK _ _ _ ?_
      refine W.rseq (k := 2) rfl fun K hK => ?_
      simp only [go_sem, e4]
      refine hK _ _ _ ?_
      clear hK K
      refine W.ret ?_
      simp only [go_sem]
      exact ⟨by omega, e2, a, B, e5, e6, rfl, by omega, by omega, e3⟩
    clear hK
    refine W.block (W.while (fun m t h1 n1 => ∃ (more : Bool) (a : List Int), m = 2 * awM i a + (if more = true then 1 else 0) ∧ Aw L i to a ∧ (more = false → AwCl L a) ∧ B < n1 ∧ (∀ x, x < n → h1 x = h x) ∧ h1 B = some (.cells (a.map eIn)) ∧ (t 2 = lv ∧ t 3 = .mp mb ∧ t 9 = .sl B 0 i 1) ∧ t 11 = .bool more) (2 * awM i (c.set to 0) + 1)
      ⟨true, c.set to 0, by simp, aw0, (fun e => by cases e), by omega, fun x hx => by simp only [go_sem, show ¬ x = B by omega]; exact i4 x hx, by simp only [go_sem]; rw [← map_setI], ⟨a2, a3, a9⟩, rfl⟩ fun m t h1 n1 ⟨more, a, k1, k2, k3, k4, k5, k6, k7, k8⟩ => ?_)
    clear a1 a2 a3 a9
    have k7' := k7
    obtain ⟨a2, a3, a9⟩ := k7'
    refine W.seq ?_
    refine W.rseq (k := 1) rfl fun K hK => ?_
    simp only [go_sem, k8]
    refine hK _ _ _ ?_
    clear hK K
    cases hmo : more
    · refine W.condF (by simp only [go_sem, hmo]) ?_
      refine W.exit ?_
      simp only [go_sem]
      exact nx _ _ _ a (by omega) k5 k6 a9 k2 (k3 hmo)
    refine W.condT (by simp only [go_sem, hmo]) ?_
    refine W.skip ?_
    simp only [go_sem]
    rw [hmo] at k1
    simp only [if_true] at k1
    refine W.block ?_
    refine W.rseq (k := 1) rfl fun K hK => ?_
    simp only [go_sem]
    refine hK _ _ _ ?_
    clear hK K
    refine W.rseq (k := 3) rfl fun K hK => ?_
    have nx1 : ∀ (t' : Fr) (n' : Nat), B < n' → (t' 2 = lv ∧ t' 3 = .mp mb ∧ t' 9 = .sl B 0 i 1 ∧ t' 32 = lv ∧ t' 33 = .int .i64 L.length) → t' 34 = .int .i64 0 → t' 11 = .bool false → K t' h1 n' := by
      intro t' n' e1 e2 e3 e4
      refine hK _ _ _ ?_
      clear hK K
      refine W.block (W.while (fun m2 t h1 n1 => ∃ (j : Nat) (more : Bool) (a : List Int), m2 = L.length - j ∧ j ≤ L.length ∧ Aw L i to a ∧ (more = true → 2 * awM i a + 1 < m) ∧ (more = false → 2 * awM i a < m ∧ AwCl (L.take j) a) ∧ B < n1 ∧ (∀ x, x < n → h1 x = h x) ∧ h1 B = some (.cells (a.map eIn)) ∧ (t 2 = lv ∧ t 3 = .mp mb ∧ t 9 = .sl B 0 i 1 ∧ t 32 = lv ∧ t 33 = .int .i64 L.length) ∧ t 34 = .int .i64 j ∧ t 11 = .bool more) L.length
        ⟨0, false, a, by simp, by simp, k2, (fun e => by cases e), (fun _ => ⟨by omega, fun x hx => by cases hx⟩), e1, k5, k6, e2, e3, e4⟩ fun m2 t h1 n1 ⟨j, more, a, m1, m2, m3, m4, m5, m6, m7, m8, m9, m10, m11⟩ => ?_)
      clear e2 e3 e4
      have m9' := m9
      obtain ⟨a2, a3, a9, a32, a33⟩ := m9'
      refine W.rseq (k := 1) rfl fun K hK => ?_
      simp only [go_sem, a33, m10]
      refine hK _ _ _ ?_
      clear hK K
      refine W.seq ?_
      refine W.cond rfl (fun hc2 => ?_) fun hc2 => ?_
      · refine W.skip ?_
        simp only [go_sem]
        have hj : j < L.length := by simp at hc2; omega
        obtain ⟨x, hx⟩ := get_some hj
        have hxm := List.mem_of_getElem? hx
        rcases s4 with ⟨e, _⟩ | ⟨b, hb, b1, b2, b3⟩
        · rw [e] at hj; cases hj
        have hbx := m7 b b2
        rw [b3] at hbx
        have hmbx := m7 mb s2
        rw [s3] at hmbx
        obtain ⟨hfx, htx⟩ := hLin x hxm
        have hfy := find_yes L hUq hxm
        have hky := key_lf (x := x)
        have el : eLf x = [.int .i64 x.prod, .int .i64 x.dot] := rfl
        rw [el] at hfy hky
        have hal : a.length = i := m3.len
        obtain ⟨d, hd⟩ : ∃ d, d = a.getD x.to (-1) := ⟨_, rfl⟩
        obtain ⟨f, hf⟩ : ∃ f, f = a.getD x.frm (-1) := ⟨_, rfl⟩
        have had : a[x.to]? = some d := by rw [hd]; exact getI_some (by omega)
        have haf : a[x.frm]? = some f := by rw [hf]; exact getI_some (by omega)
        have hdl := aw_lt m3 x.to
        rw [← hd] at hdl
        have hdl0 := m3.low x.to
        rw [← hd] at hdl0
        have ht1 : L.take (j + 1) = L.take j ++ [x] := by rw [List.take_add_one, hx]; rfl
        refine W.seqk fun K hK => ?_
        have nx2 : ∀ (t' : Fr) (h' : Heap) (n' : Nat) (more : Bool) (a : List Int), Aw L i to a → (more = true → 2 * awM i a + 1 < m) → (more = false → 2 * awM i a < m ∧ AwCl (L.take (j + 1)) a) → B < n' → (∀ x, x < n → h' x = h x) → h' B = some (.cells (a.map eIn)) → (t' 2 = lv ∧ t' 3 = .mp mb ∧ t' 9 = .sl B 0 i 1 ∧ t' 32 = lv ∧ t' 33 = .int .i64 L.length) → t' 34 = .int .i64 j → t' 11 = .bool more → K t' h' n' := by
          intro t' h' n' more a e1 e2 e3 e4 e5 e6 e7 e8 e9
          refine hK _ _ _ ?_
          refine W.region (k := 2) rfl ?_
          simp only [go_sem, e8]
          refine ⟨L.length - (j + 1), by omega, j + 1, more, a, rfl, by omega, e1, e2, e3, by omega, e5, e6, e7, ?_, e9⟩
          rw [wrap64 (by omega) (by omega)]; rfl
        clear hK
        refine W.block ?_
        have zbn : ∀ j, ¬ b = n1 + j := fun j => by omega
        have zmn : ∀ j, ¬ mb = n1 + j := fun j => by omega
        have zBn : ∀ j, ¬ B = n1 + j := fun j => by omega
        refine W.rseq (k := 4) rfl fun K hK => ?_
        simp only [go_sem, a32, hb, m10, hbx, hx, show (j : Int) < (L.length : Int) by omega]
        refine hK _ _ _ ?_
        clear hK K
        refine W.rseq (k := 5) rfl fun K hK => ?_
        simp only [go_sem, hmbx, hky, hfy, zmn, a3]
        refine hK _ _ _ ?_
        clear hK K
        refine W.rseq (k := 6) rfl fun K hK => ?_
        simp only [go_sem, a9, m8, had, zBn, eIn, show (x.to : Int) < (i : Int) by omega]
        refine hK _ _ _ ?_
        clear hK K
        refine W.rseq (k := 20) rfl fun K hK => ?_
        have no : ∀ (t' : Fr) (h' : Heap) (n' : Nat), B < n' → (∀ x, x < n → h' x = h x) → h' B = some (.cells (a.map eIn)) → (t' 2 = lv ∧ t' 3 = .mp mb ∧ t' 9 = .sl B 0 i 1 ∧ t' 32 = lv ∧ t' 33 = .int .i64 L.length) → t' 34 = .int .i64 j → t' 11 = .bool more → t' 65 = .bool false → ¬ (0 ≤ d ∧ (f < 0 ∨ d + 1 < f)) → K t' h' n' := by
          intro t' h' n' e1 e2 e3 e4 e5 e6 e7 e8
          refine hK _ _ _ ?_
          refine W.condF (by simp only [go_sem, e7]) ?_
          refine W.skip ?_
          simp only [go_sem]
          refine nx2 _ _ _ more a m3 m4 (fun e => ⟨(m5 e).1, ?_⟩) e1 e2 e3 e4 e5 e6
          rw [ht1]
          intro y hy h0
          rcases List.mem_append.1 hy with hy | hy
          · exact (m5 e).2 y hy h0
          · rw [List.mem_singleton.1 hy, ← hd] at h0
            rw [List.mem_singleton.1 hy, ← hd, ← hf]
            omega
        have yes : ∀ (t' : Fr) (h' : Heap) (n' : Nat), B < n' → (∀ x, x < n → h' x = h x) → h' B = some (.cells (a.map eIn)) → h' (n1 + 8) = some (.cells [eTo x]) → (t' 2 = lv ∧ t' 3 = .mp mb ∧ t' 9 = .sl B 0 i 1 ∧ t' 32 = lv ∧ t' 33 = .int .i64 L.length) → t' 34 = .int .i64 j → t' 14 = .ptr (n1 + 8) 0 0 → t' 15 = .int .i64 d → t' 65 = .bool true → 0 ≤ d → (f < 0 ∨ d + 1 < f) → K t' h' n' := by
          intro t' h' n' e1 e2 e3 e3' e4 e5 e6 e6' e7 e8 e9
          refine hK _ _ _ ?_
          refine W.condT (by simp only [go_sem, e7]) ?_
          have e4' := e4
          obtain ⟨a2, a3, a9, a32, a33⟩ := e4'
          refine W.rseq (k := 7) rfl fun K hK => ?_
          simp only [go_sem, a9, e6, e3', e6', e3, haf, eIn, show (x.frm : Int) < (i : Int) by omega]
          refine hK _ _ _ ?_
          clear hK K
          refine W.region (k := 1) rfl ?_
          simp only [go_sem]
          rw [hd] at e8 e9
          rw [hf] at e9
          obtain ⟨w1, w2⟩ := m3.set hxm hLin e8 e9.symm.symm
          rw [← hd] at w1 w2
          refine nx2 _ _ _ true (a.set x.frm (d + 1)) w1 (fun _ => ?_) (fun e => by cases e) (by omega) (fun x hx => by simp only [go_sem, show ¬ x = B by omega]; exact e2 x hx) ?_ e4 e5 rfl
          · cases hm : more
            · have := (m5 hm).1; omega
            · have := m4 hm; omega
          · simp only [go_sem]
            rw [← map_setI, wrap64 (by omega) (by omega)]
        clear hK
        have hxi : (x.frm : Int) < (i : Int) := by omega
        have hw : IntKind.wrap .i64 (d + 1) = d + 1 := wrap64 (by omega) (by omega)
        by_cases c1 : d ≥ 0
        · by_cases c2 : f < 0
          · simp only [go_sem, a9, m8, haf, zBn, eIn, hxi, decide_eq_true c1, decide_eq_true c2]
            refine yes _ _ _ (by omega) (fun y hy => by simp only [go_sem, show ∀ j, ¬ y = n1 + j from fun j => by omega]; exact m7 y hy) (by simp only [go_sem, zBn, m8]) (by simp only [go_sem]) m9 m10 rfl rfl rfl c1 (.inl c2)
          · by_cases c3 : f > d + 1
            · simp only [go_sem, a9, m8, haf, zBn, eIn, hxi, decide_eq_true c1, decide_eq_false c2, hw, decide_eq_true c3]
              refine yes _ _ _ (by omega) (fun y hy => by simp only [go_sem, show ∀ j, ¬ y = n1 + j from fun j => by omega]; exact m7 y hy) (by simp only [go_sem, zBn, m8]) (by simp only [go_sem]) m9 m10 rfl rfl rfl c1 (.inr c3)
            · simp only [go_sem, a9, m8, haf, zBn, eIn, hxi, decide_eq_true c1, decide_eq_false c2, hw, decide_eq_false c3]
              refine no _ _ _ (by omega) (fun y hy => by simp only [go_sem, show ∀ j, ¬ y = n1 + j from fun j => by omega]; exact m7 y hy) (by simp only [go_sem, zBn, m8]) m9 m10 m11 rfl (fun e => by omega)
        · simp only [go_sem, a9, m8, haf, zBn, eIn, hxi, decide_eq_false c1]
          refine no _ _ _ (by omega) (fun y hy => by simp only [go_sem, show ∀ j, ¬ y = n1 + j from fun j => by omega]; exact m7 y hy) (by simp only [go_sem, zBn, m8]) m9 m10 m11 rfl (fun e => by omega)
      · refine W.exit ?_
        simp only [go_sem]
        have hj : j = L.length := by simp at hc2; omega
        subst hj
        rw [List.take_length] at m5
        cases hm : more
        · refine ⟨2 * awM i a, (m5 hm).1, false, a, by simp, m3, (fun _ => (m5 hm).2), by omega, m7, m8, ⟨a2, a3, a9⟩, by rw [← hm]; exact m11⟩
        · refine ⟨2 * awM i a + 1, m4 hm, true, a, by simp, m3, (fun e => by cases e), by omega, m7, m8, ⟨a2, a3, a9⟩, by rw [← hm]; exact m11⟩
    clear hK
    rcases s4 with ⟨e, hb⟩ | ⟨b, hb, b1, b2, b3⟩
    · simp only [go_sem, a2, hb]
      refine nx1 _ _ (by omega) ⟨by rw [← hb]; exact a2, a3, a9, by rw [← hb]; rfl, by rw [e]; rfl⟩ rfl rfl
    · simp only [go_sem, a2, hb]
      refine nx1 _ _ (by omega) ⟨by rw [← hb]; exact a2, a3, a9, by rw [← hb]; rfl, rfl⟩ rfl rfl

end Go.Av

