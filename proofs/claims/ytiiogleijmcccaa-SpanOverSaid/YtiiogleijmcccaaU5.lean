/-
  Layer 13, package left: whether steps lead somewhere. Conditions: none.
-/
import Derived.Test.YtiiogleijmcccaaU4
namespace Go.Av
open Go.Proofs
set_option maxRecDepth 100000
set_option linter.unusedSimpArgs false
set_option linter.unusedVariables false

set_option maxHeartbeats 4000000 in
theorem f130 (L : List Lf) (hL : L.length < 2 ^ 40) (x : Lf) (hx : x ∈ L) : ∃ k : Nat, PF pg Tq 130 [.ro (L.map eLf), .agg (eLf x)] (.int .i64 k) := by
  have fin : FH pg Tq 130 [.ro (L.map eLf), .agg (eLf x)] h0 0 fun r h n => ∃ k : Nat, r = .int .i64 k := by
    refine FH.of (N := 19) (rs := #[.tmp 4]) Try.func130 rfl rfl (of_decide_eq_true rfl) rfl (by decide) ?_
    refine W.rseq (k := 2) rfl fun K hK => ?_
    simp only [go_sem]
    refine hK _ _ _ ?_
    clear hK K
    refine W.seq ?_
    refine W.rseq (k := 3) rfl fun K hK => ?_
    simp only [go_sem]
    refine hK _ _ _ ?_
    clear hK K
    refine W.block (W.while (fun m t h n => ∃ j : Nat, m = L.length - j ∧ j ≤ L.length ∧ 0 < n ∧ x ∈ L.drop j ∧ h 0 = some (.cells [eLf x]) ∧ (t 0 = .ro (L.map eLf) ∧ t 3 = .ptr 0 0 0 ∧ t 7 = .int .i64 L.length) ∧ t 8 = .int .i64 j) L.length
      ⟨0, by simp, by simp, by omega, by simpa using hx, by simp only [go_sem], ⟨rfl, rfl, by simp only [go_sem]⟩, rfl⟩ fun m t h n ⟨j, i1, i2, i3, i4, i5, i6, i7⟩ => ?_)
    have i6' := i6
    obtain ⟨a0, a3, a7⟩ := i6'
    refine W.rseq (k := 1) rfl fun K hK => ?_
    simp only [go_sem, a7, i7]
    refine hK _ _ _ ?_
    clear hK K
    refine W.seq ?_
    refine W.cond rfl (fun hc => ?_) fun hc => ?_
    · refine W.skip ?_
      simp only [go_sem]
      have hj : j < L.length := by simp at hc; omega
      obtain ⟨y, hy⟩ := get_some hj
      have hdj : L.drop j = y :: L.drop (j + 1) := by
        rw [List.drop_eq_getElem_cons hj]
        congr 1
        exact (List.getElem_eq_iff hj).2 hy
      rw [hdj] at i4
      refine W.seq (W.block ?_)
      refine W.rseq (k := 2) rfl fun K hK => ?_
      simp only [go_sem, i7]
      refine hK _ _ _ ?_
      clear hK K
      refine W.dseq (k := 6) rfl fun K hK => ?_
      simp only [go_sem, a0, a3, i5, i7, hy]
      refine hK _ _ _ _ (by kernel_rfl) ?_
      clear hK K
      refine W.cond rfl (fun hc2 => ?_) fun hc2 => ?_
      · refine W.rseq (k := 2) rfl fun K hK => ?_
        simp only [go_sem]
        refine hK _ _ _ ?_
        clear hK K
        refine W.ret ?_
        simp only [go_sem]
        exact ⟨j, rfl⟩
      · refine W.skip ?_
        simp only [go_sem]
        refine W.region (k := 2) rfl ?_
        simp only [go_sem, i7]
        refine ⟨L.length - (j + 1), by omega, j + 1, rfl, by omega, by omega, ?_, i5, ⟨a0, a3, a7⟩, ?_⟩
        · rcases List.mem_cons.1 i4 with e | e
          · subst e
            simp at hc2
          · exact e
        · rw [wrap64 (by omega) (by omega)]; rfl
    · refine W.exit ?_
      simp only [go_sem]
      have hj : j = L.length := by simp at hc; omega
      rw [hj, List.drop_length] at i4
      cases i4
  obtain ⟨r, h', n', hb, k, rfl⟩ := fin
  exact ⟨k, _, h', n', hb, 1, fun fr => rfl⟩

theorem f107 (L : List Lf) (hL : L.length < 2 ^ 40) (x : Lf) (hx : x ∈ L) : PF pg Tq 107 [.ro (L.map eLf), .agg (eLf x)] (.bool true) := by
  obtain ⟨k, hk⟩ := f130 L hL x hx
  have fin : FH pg Tq 107 [.ro (L.map eLf), .agg (eLf x)] h0 0 fun r h n => r = .bool true := by
    refine FH.of (N := 9) (rs := #[.tmp 4]) Try.func107 rfl rfl (of_decide_eq_true rfl) rfl (by decide) ?_
    refine W.rseq (k := 2) rfl fun K hK => ?_
    simp only [go_sem]
    refine hK _ _ _ ?_
    clear hK K
    refine W.rseq (k := 5) rfl fun K hK => ?_
    simp only [go_sem]
    refine VCall.frz 6 hk rfl ?_
    simp only [go_sem, show decide ((k : Int) ≥ 0) = true from decide_eq_true (by omega)]
    refine hK _ _ _ ?_
    first | clear hK K | clear hK | skip
    refine W.ret ?_
    simp only [go_sem]
  obtain ⟨r, h', n', hb, rfl⟩ := fin
  exact ⟨_, h', n', hb, 1, fun fr => rfl⟩

set_option maxHeartbeats 8000000 in
theorem f69 (g : Gr) (hg : g.Small) (hr : right g = true) (fr to : Nat) (l : List Lf) (hl : l.length ≤ 101) (hne : l ≠ []) (hp : Pth (stepsG g) fr to l) : PF pg Tq 69 [.agg (eGr g), .int .i64 fr, .int .i64 to, .ro (l.map eLf)] (.bool true) := by
  have hlp : 0 < l.length := List.length_pos_iff.2 hne
  have fin : FH pg Tq 69 [.agg (eGr g), .int .i64 fr, .int .i64 to, .ro (l.map eLf)] h0 0 fun r h n => r = .bool true := by
    refine FH.of (N := 52) (rs := #[.tmp 8]) Try.func69 rfl rfl (of_decide_eq_true rfl) rfl (by decide) ?_
    refine W.rseq (k := 2) rfl fun K hK => ?_
    simp only [go_sem]
    refine hK _ _ _ ?_
    clear hK K
    refine W.seq ?_
    refine W.rseq (k := 8) rfl fun K hK => ?_
    simp only [go_sem, hr, show decide ((l.length : Int) = 0) = false from decide_eq_false (by omega)]
    refine VCall.frz 6 (f87 g hg) rfl ?_
    try simp only [go_sem, hr, show decide ((l.length : Int) = 0) = false from decide_eq_false (by omega)]
    refine hK _ _ _ ?_
    clear hK K
    refine W.condF (by simp only [go_sem]) ?_
    refine W.skip ?_
    simp only [go_sem]
    refine W.rseq (k := 7) rfl fun K hK => ?_
    simp only [go_sem]
    refine VCall.heap (f104 g hg hr _ _) fun r h1 n1 ⟨x1, x2, lv, mb, x3, x4⟩ => ?_
    subst x3
    simp only [go_sem]
    refine hK _ _ _ ?_
    first | clear hK K | clear hK | skip
    refine W.seq ?_
    refine W.rseq (k := 3) rfl fun K hK => ?_
    simp only [go_sem]
    refine hK _ _ _ ?_
    clear hK K
    refine W.block (W.while (fun m t h2 n2 => ∃ (j cur : Nat), m = l.length - j ∧ j ≤ l.length ∧ n1 ≤ n2 ∧ Pth (stepsG g) cur to (l.drop j) ∧ (∀ x, x < n1 → h2 x = h1 x) ∧ (t 2 = .int .i64 to ∧ t 9 = lv ∧ t 10 = .mp mb ∧ t 26 = .ro (l.map eLf) ∧ t 27 = .int .i64 l.length) ∧ t 1 = .int .i64 cur ∧ t 28 = .int .i64 j) l.length
      ⟨0, fr, by simp, by simp, by omega, by simpa using hp, fun x hx => rfl, ⟨rfl, rfl, rfl, rfl, by simp only [go_sem]⟩, rfl, rfl⟩ fun m t h2 n2 ⟨j, cur, i1, i2, i3, i4, i5, i6, i7, i8⟩ => ?_)
    have i6' := i6
    obtain ⟨a2, a9, a10, a26, a27⟩ := i6'
    refine W.rseq (k := 1) rfl fun K hK => ?_
    simp only [go_sem, a27, i8]
    refine hK _ _ _ ?_
    clear hK K
    refine W.seq ?_
    refine W.cond rfl (fun hc => ?_) fun hc => ?_
    · refine W.skip ?_
      simp only [go_sem]
      have hj : j < l.length := by simp at hc; omega
      obtain ⟨y, hy⟩ := get_some hj
      have hdj : l.drop j = y :: l.drop (j + 1) := by
        rw [List.drop_eq_getElem_cons hj]
        congr 1
        exact (List.getElem_eq_iff hj).2 hy
      rw [hdj] at i4
      obtain ⟨q1, q2, q3⟩ := i4
      have x5 := x4.next i5 i3
      obtain ⟨s1, s2, s3, s4, s5, s6⟩ := x5
      have hfy := find_yes _ s4 q1
      have hky := key_lf (x := y)
      have el : eLf y = [.int .i64 y.prod, .int .i64 y.dot] := rfl
      rw [el] at hfy hky
      have zmn : ∀ j, ¬ mb = n2 + j := fun j => by omega
      refine W.seq (W.block ?_)
      refine W.rseq (k := 4) rfl fun K hK => ?_
      simp only [go_sem, a26, i8, hy]
      refine hK _ _ _ ?_
      clear hK K
      refine W.seq ?_
      refine W.rseq (k := 12) rfl fun K hK => ?_
      simp only [go_sem, a9]
      refine VCall.frzq (as' := [.ro ((stepsG g).map eLf), .agg (eLf y)]) 5 ?_ (f107 _ (by omega) y q1) ?_
      · have hf : ∀ v w : Option AO, rf true 4 (upd (upd h2 (n2 + 3) v) (n2 + 3) w) lv = some (.ro ((stepsG g).map eLf)) := fun v w =>
          (s6.next (h' := upd (upd h2 (n2 + 3) v) (n2 + 3) w) (lo' := 0) rfl (fun x hx hx' => by simp only [go_sem, show ¬ x = n2 + 3 by omega]) (Nat.le_refl _) (by omega)).frz (d := 2) fun x _ => by simp [rfs, rf, eLf]
        simp only [rfs, List.mapM_cons, hf]
        rfl
      simp only [go_sem, a10, zmn, s3, hky, hfy, i7, show decide ((y.frm : Int) = (cur : Int)) = true from decide_eq_true (by omega)]
      refine hK _ _ _ ?_
      first | clear hK K | clear hK | skip
      refine W.condF (by simp only [go_sem]) ?_
      refine W.skip ?_
      simp only [go_sem]
      refine W.region (k := 5) rfl ?_
      simp only [go_sem, a10, zmn, s3, hky, hfy]
      refine W.region (k := 2) rfl ?_
      simp only [go_sem, i8]
      refine ⟨l.length - (j + 1), by omega, j + 1, y.to, rfl, by omega, by omega, q3, fun x hx => by simp only [go_sem, show ∀ j, ¬ x = n2 + j from fun j => by omega]; exact i5 x hx, ⟨a2, a9, a10, a26, a27⟩, rfl, ?_⟩
      rw [wrap64 (by omega) (by omega)]; rfl
    · refine W.exit ?_
      simp only [go_sem]
      have hj : j = l.length := by simp at hc; omega
      rw [hj, List.drop_length] at i4
      have i4 : cur = to := i4
      subst i4
      refine W.rseq (k := 4) rfl fun K hK => ?_
      simp only [go_sem, i7, a2]
      refine hK _ _ _ ?_
      clear hK K
      refine W.ret ?_
      simp only [go_sem]
  obtain ⟨r, h', n', hb, rfl⟩ := fin
  exact ⟨_, h', n', hb, 1, fun fr => rfl⟩

end Go.Av

