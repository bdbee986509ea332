/-
  Texts U5, U6, U7, U8 of this work, one behind the other. Conditions: none.
-/
import Derived.Test.YtiiogleijmcccaaU4
import Derived.Test.YtiiogleijmcccaaR3
import Derived.Test.YtiiogleijmcccaaC11b
import Derived.Test.YtiiogleijmcccaaD1

/-
  Layer 13, package left: whether steps lead somewhere. Conditions: none.
-/
namespace Go.Av
open Go.Proofs
set_option maxRecDepth 100000
set_option linter.unusedSimpArgs false
set_option linter.unusedVariables false

set_option maxHeartbeats 4000000 in
theorem f130 (L : List Lf) (hL : L.length < 2 ^ 40) (x : Lf) (hx : x ∈ L) : ∃ k : Nat, PF pg Tq 130 [.ro (L.map eLf), .agg (eLf x)] (.int .i64 k) := by
  have fin : FH pg Tq 130 [.ro (L.map eLf), .agg (eLf x)] h0 0 fun r h n => ∃ k : Nat, r = .int .i64 k := by
    refine FH.of (N := 19) (rs := #[.tmp 4]) Try.func130 rfl rfl (of_decide_eq_true rfl) rfl (by decide) ?_
    refine W.rseq (k := 2) rfl fun K hK => ?_
    simp only [go_sem]
    refine hK _ _ _ ?_
    clear hK K
    refine W.seq ?_
    refine W.rseq (k := 3) rfl fun K hK => ?_
    simp only [go_sem]
    refine hK _ _ _ ?_
    clear hK K
    refine W.block (W.while (fun m t h n => ∃ j : Nat, m = L.length - j ∧ j ≤ L.length ∧ 0 < n ∧ x ∈ L.drop j ∧ h 0 = some (.cells [eLf x]) ∧ (t 0 = .ro (L.map eLf) ∧ t 3 = .ptr 0 0 0 ∧ t 7 = .int .i64 L.length) ∧ t 8 = .int .i64 j) L.length
      ⟨0, by simp, by simp, by omega, by simpa using hx, by simp only [go_sem], ⟨rfl, rfl, by simp only [go_sem]⟩, rfl⟩ fun m t h n ⟨j, i1, i2, i3, i4, i5, i6, i7⟩ => ?_)
    have i6' := i6
    obtain ⟨a0, a3, a7⟩ := i6'
    refine W.rseq (k := 1) rfl fun K hK => ?_
    simp only [go_sem, a7, i7]
    refine hK _ _ _ ?_
    clear hK K
    refine W.seq ?_
    refine W.cond rfl (fun hc => ?_) fun hc => ?_
    · refine W.skip ?_
      simp only [go_sem]
      have hj : j < L.length := by simp at hc; omega
      obtain ⟨y, hy⟩ := get_some hj
      have hdj : L.drop j = y :: L.drop (j + 1) := by
        rw [List.drop_eq_getElem_cons hj]
        congr 1
        exact (List.getElem_eq_iff hj).2 hy
      rw [hdj] at i4
      refine W.seq (W.block ?_)
      refine W.rseq (k := 2) rfl fun K hK => ?_
      simp only [go_sem, i7]
      refine hK _ _ _ ?_
      clear hK K
      refine W.dseq (k := 6) rfl fun K hK => ?_
      simp only [go_sem, a0, a3, i5, i7, hy]
      refine hK _ _ _ _ (by kernel_rfl) ?_
      clear hK K
      refine W.cond rfl (fun hc2 => ?_) fun hc2 => ?_
      · refine W.rseq (k := 2) rfl fun K hK => ?_
        simp only [go_sem]
        refine hK _ _ _ ?_
        clear hK K
        refine W.ret ?_
        simp only [go_sem]
        exact ⟨j, rfl⟩
      · refine W.skip ?_
        simp only [go_sem]
        refine W.region (k := 2) rfl ?_
        simp only [go_sem, i7]
        refine ⟨L.length - (j + 1), by omega, j + 1, rfl, by omega, by omega, ?_, i5, ⟨a0, a3, a7⟩, ?_⟩
        · rcases List.mem_cons.1 i4 with e | e
          · subst e
            simp at hc2
          · exact e
        · rw [wrap64 (by omega) (by omega)]; rfl
    · refine W.exit ?_
      simp only [go_sem]
      have hj : j = L.length := by simp at hc; omega
      rw [hj, List.drop_length] at i4
      cases i4
  obtain ⟨r, h', n', hb, k, rfl⟩ := fin
  exact ⟨k, _, h', n', hb, 1, fun fr => rfl⟩

theorem f107 (L : List Lf) (hL : L.length < 2 ^ 40) (x : Lf) (hx : x ∈ L) : PF pg Tq 107 [.ro (L.map eLf), .agg (eLf x)] (.bool true) := by
  obtain ⟨k, hk⟩ := f130 L hL x hx
  have fin : FH pg Tq 107 [.ro (L.map eLf), .agg (eLf x)] h0 0 fun r h n => r = .bool true := by
    refine FH.of (N := 9) (rs := #[.tmp 4]) Try.func107 rfl rfl (of_decide_eq_true rfl) rfl (by decide) ?_
    refine W.rseq (k := 2) rfl fun K hK => ?_
    simp only [go_sem]
    refine hK _ _ _ ?_
    clear hK K
    refine W.rseq (k := 5) rfl fun K hK => ?_
    simp only [go_sem]
    refine VCall.frz 6 hk rfl ?_
    simp only [go_sem, show decide ((k : Int) ≥ 0) = true from decide_eq_true (by omega)]
    refine hK _ _ _ ?_
    first | clear hK K | clear hK | skip
    refine W.ret ?_
    simp only [go_sem]
  obtain ⟨r, h', n', hb, rfl⟩ := fin
  exact ⟨_, h', n', hb, 1, fun fr => rfl⟩

set_option maxHeartbeats 8000000 in
theorem f69 (g : Gr) (hg : g.Small) (hr : right g = true) (fr to : Nat) (l : List Lf) (hl : l.length ≤ 101) (hne : l ≠ []) (hp : Pth (stepsG g) fr to l) : PF pg Tq 69 [.agg (eGr g), .int .i64 fr, .int .i64 to, .ro (l.map eLf)] (.bool true) := by
  have hlp : 0 < l.length := List.length_pos_iff.2 hne
  have fin : FH pg Tq 69 [.agg (eGr g), .int .i64 fr, .int .i64 to, .ro (l.map eLf)] h0 0 fun r h n => r = .bool true := by
    refine FH.of (N := 52) (rs := #[.tmp 8]) Try.func69 rfl rfl (of_decide_eq_true rfl) rfl (by decide) ?_
    refine W.rseq (k := 2) rfl fun K hK => ?_
    simp only [go_sem]
    refine hK _ _ _ ?_
    clear hK K
    refine W.seq ?_
    refine W.rseq (k := 8) rfl fun K hK => ?_
    simp only [go_sem, hr, show decide ((l.length : Int) = 0) = false from decide_eq_false (by omega)]
    refine VCall.frz 6 (f87 g hg) rfl ?_
    try simp only [go_sem, hr, show decide ((l.length : Int) = 0) = false from decide_eq_false (by omega)]
    refine hK _ _ _ ?_
    clear hK K
    refine W.condF (by simp only [go_sem]) ?_
    refine W.skip ?_
    simp only [go_sem]
    refine W.rseq (k := 7) rfl fun K hK => ?_
    simp only [go_sem]
    refine VCall.heap (f104 g hg hr _ _) fun r h1 n1 ⟨x1, x2, lv, mb, x3, x4⟩ => ?_
    subst x3
    simp only [go_sem]
    refine hK _ _ _ ?_
    first | clear hK K | clear hK | skip
    refine W.seq ?_
    refine W.rseq (k := 3) rfl fun K hK => ?_
    simp only [go_sem]
    refine hK _ _ _ ?_
    clear hK K
    refine W.block (W.while (fun m t h2 n2 => ∃ (j cur : Nat), m = l.length - j ∧ j ≤ l.length ∧ n1 ≤ n2 ∧ Pth (stepsG g) cur to (l.drop j) ∧ (∀ x, x < n1 → h2 x = h1 x) ∧ (t 2 = .int .i64 to ∧ t 9 = lv ∧ t 10 = .mp mb ∧ t 26 = .ro (l.map eLf) ∧ t 27 = .int .i64 l.length) ∧ t 1 = .int .i64 cur ∧ t 28 = .int .i64 j) l.length
      ⟨0, fr, by simp, by simp, by omega, by simpa using hp, fun x hx => rfl, ⟨rfl, rfl, rfl, rfl, by simp only [go_sem]⟩, rfl, rfl⟩ fun m t h2 n2 ⟨j, cur, i1, i2, i3, i4, i5, i6, i7, i8⟩ => ?_)
    have i6' := i6
    obtain ⟨a2, a9, a10, a26, a27⟩ := i6'
    refine W.rseq (k := 1) rfl fun K hK => ?_
    simp only [go_sem, a27, i8]
    refine hK _ _ _ ?_
    clear hK K
    refine W.seq ?_
    refine W.cond rfl (fun hc => ?_) fun hc => ?_
    · refine W.skip ?_
      simp only [go_sem]
      have hj : j < l.length := by simp at hc; omega
      obtain ⟨y, hy⟩ := get_some hj
      have hdj : l.drop j = y :: l.drop (j + 1) := by
        rw [List.drop_eq_getElem_cons hj]
        congr 1
        exact (List.getElem_eq_iff hj).2 hy
      rw [hdj] at i4
      obtain ⟨q1, q2, q3⟩ := i4
      have x5 := x4.next i5 i3
      obtain ⟨s1, s2, s3, s4, s5, s6⟩ := x5
      have hfy := find_yes _ s4 q1
      have hky := key_lf (x := y)
      have el : eLf y = [.int .i64 y.prod, .int .i64 y.dot] := rfl
      rw [el] at hfy hky
      have zmn : ∀ j, ¬ mb = n2 + j := fun j => by omega
      refine W.seq (W.block ?_)
      refine W.rseq (k := 4) rfl fun K hK => ?_
      simp only [go_sem, a26, i8, hy]
      refine hK _ _ _ ?_
      clear hK K
      refine W.seq ?_
      refine W.rseq (k := 12) rfl fun K hK => ?_
      simp only [go_sem, a9]
      refine VCall.frzq (as' := [.ro ((stepsG g).map eLf), .agg (eLf y)]) 5 ?_ (f107 _ (by omega) y q1) ?_
      · have hf : ∀ v w : Option AO, rf true 4 (upd (upd h2 (n2 + 3) v) (n2 + 3) w) lv = some (.ro ((stepsG g).map eLf)) := fun v w =>
          (s6.next (h' := upd (upd h2 (n2 + 3) v) (n2 + 3) w) (lo' := 0) rfl (fun x hx hx' => by simp only [go_sem, show ¬ x = n2 + 3 by omega]) (Nat.le_refl _) (by omega)).frz (d := 2) fun x _ => by simp [rfs, rf, eLf]
        simp only [rfs, List.mapM_cons, hf]
        rfl
      simp only [go_sem, a10, zmn, s3, hky, hfy, i7, show decide ((y.frm : Int) = (cur : Int)) = true from decide_eq_true (by omega)]
      refine hK _ _ _ ?_
      first | clear hK K | clear hK | skip
      refine W.condF (by simp only [go_sem]) ?_
      refine W.skip ?_
      simp only [go_sem]
      refine W.region (k := 5) rfl ?_
      simp only [go_sem, a10, zmn, s3, hky, hfy]
      refine W.region (k := 2) rfl ?_
      simp only [go_sem, i8]
      refine ⟨l.length - (j + 1), by omega, j + 1, y.to, rfl, by omega, by omega, q3, fun x hx => by simp only [go_sem, show ∀ j, ¬ x = n2 + j from fun j => by omega]; exact i5 x hx, ⟨a2, a9, a10, a26, a27⟩, rfl, ?_⟩
      rw [wrap64 (by omega) (by omega)]; rfl
    · refine W.exit ?_
      simp only [go_sem]
      have hj : j = l.length := by simp at hc; omega
      rw [hj, List.drop_length] at i4
      have i4 : cur = to := i4
      subst i4
      refine W.rseq (k := 4) rfl fun K hK => ?_
      simp only [go_sem, i7, a2]
      refine hK _ _ _ ?_
      clear hK K
      refine W.ret ?_
      simp only [go_sem]
  obtain ⟨r, h', n', hb, rfl⟩ := fin
  exact ⟨_, h', n', hb, 1, fun fr => rfl⟩

end Go.Av

/-
  Layer 13/14: what stands at the left again, and soundness. Conditions: none.
-/
namespace Go.Av
open Go.Proofs
set_option maxRecDepth 100000
set_option linter.unusedSimpArgs false
set_option linter.unusedVariables false

/-- The first place of some, from i on. -/
def seek (p : Nat → Bool) : Nat → Nat → Option Nat
  | 0, _ => none
  | n + 1, i => if p i then some i else seek p n (i + 1)

theorem seek_some {p : Nat → Bool} {k : Nat} : ∀ {n i : Nat}, seek p n i = some k → i ≤ k ∧ k < i + n ∧ p k = true ∧ ∀ j, i ≤ j → j < k → p j = false
  | 0, i, h => by cases h
  | n + 1, i, h => by
    rw [seek] at h
    cases hp : p i
    · rw [hp] at h
      obtain ⟨a, b, c, d⟩ := seek_some (n := n) h
      refine ⟨by omega, by omega, c, fun j h1 h2 => ?_⟩
      by_cases e : j = i
      · rw [e, hp]
      · exact d j (by omega) h2
    · rw [hp] at h
      cases h
      exact ⟨by omega, by omega, hp, fun j h1 h2 => by omega⟩

theorem seek_none {p : Nat → Bool} : ∀ {n i : Nat}, seek p n i = none → ∀ j, i ≤ j → j < i + n → p j = false
  | 0, i, _, j, h1, h2 => by omega
  | n + 1, i, h, j, h1, h2 => by
    rw [seek] at h
    cases hp : p i
    · rw [hp] at h
      by_cases e : j = i
      · rw [e, hp]
      · exact seek_none (n := n) h j (by omega) (by omega)
    · rw [hp] at h; cases h

def sk (o : Option Nat) : Int := match o with
  | some i => i
  | none => -1

def zR (l : List Fc) (i : Nat) : Bool := decide (rk l i = 0)

noncomputable def checkL (g : Gr) : Int × Int :=
  if right g then match seek (zR (ranksL g true)) g.nons.toNat 0 with
    | some i => (i, 8)
    | none => match seek (zR (reachL g)) g.nons.toNat 0 with
      | some i => (i, 9)
      | none => match seek (cycB g) g.nons.toNat 0 with
        | some i => (i, 10)
        | none => (0, 0)
  else (0, 1)

theorem wb_pos {g : Gr} {i : Nat} {l : List Lf} (h : Wb g i l) : decide ((l.length : Int) > 0) = cycB g i := by
  obtain ⟨_, ⟨rfl, h⟩ | ⟨h1, h2⟩⟩ := h
  · cases hc : cycB g i
    · rfl
    · exact absurd (cycB_iff.1 hc) h
  · rw [cycB_iff.2 ⟨l, h1, h2⟩]
    have := List.length_pos_iff.2 h1
    simpa using this

set_option maxHeartbeats 4000000 in
theorem f102 (g : Gr) (hg : g.Small) (hr : right g = true) : ∃ w : Nat, w < 2 ^ 32 ∧ (∀ i, i < g.nons.toNat → w.testBit i = cycB g i) ∧ PF pg Tq 102 [.agg (eGr g)] (.int .u32 w) := by
  obtain ⟨⟨hn1, hn2⟩, _, _, hp60, h5⟩ := right_in hr
  obtain ⟨M, hM⟩ : ∃ M, M = g.nons.toNat := ⟨_, rfl⟩
  have hMn : g.nons = (M : Int) := by omega
  rw [← hM]
  have fin : FH pg Tq 102 [.agg (eGr g)] h0 0 fun r h n => ∃ w : Nat, w < 2 ^ 32 ∧ (∀ i, i < M → w.testBit i = cycB g i) ∧ r = .int .u32 w := by
    refine FH.of (N := 24) (rs := #[.tmp 2]) Try.func102 rfl rfl (of_decide_eq_true rfl) rfl (by decide) ?_
    refine W.rseq (k := 2) rfl fun K hK => ?_
    simp only [go_sem]
    refine hK _ _ _ ?_
    clear hK K
    refine W.rseq (k := 1) rfl fun K hK => ?_
    simp only [go_sem]
    refine hK _ _ _ ?_
    clear hK K
    refine W.seq ?_
    refine W.rseq (k := 3) rfl fun K hK => ?_
    simp only [go_sem]
    refine hK _ _ _ ?_
    clear hK K
    refine W.block (W.while (fun m t h n => ∃ (i w : Nat), m = M - i ∧ i ≤ M ∧ 0 < n ∧ w < 2 ^ 32 ∧ (∀ j, w.testBit j = (decide (j < i) && cycB g j)) ∧ h 0 = some (.cells [eGr g]) ∧ (t 1 = .ptr 0 0 0 ∧ t 6 = .int .i64 M) ∧ t 3 = .int .u32 w ∧ t 7 = .int .i64 i) M
      ⟨0, 0, by simp, by simp, by omega, by decide, by simp, by simp only [go_sem], ⟨rfl, by simp only [go_sem, hMn]⟩, rfl, rfl⟩ fun m t h n ⟨i, w, i1, i2, i3, i4, i5, i6, i7, i8, i9⟩ => ?_)
    have i7' := i7
    obtain ⟨a1, a6⟩ := i7'
    refine W.rseq (k := 1) rfl fun K hK => ?_
    simp only [go_sem, a6, i9]
    refine hK _ _ _ ?_
    clear hK K
    refine W.seq ?_
    refine W.cond rfl (fun hc => ?_) fun hc => ?_
    · refine W.skip ?_
      simp only [go_sem]
      have hi : i < M := by simp at hc; omega
      obtain ⟨l, hp, hw⟩ := f68 g hg hr i (by omega)
      have zn : ∀ j, ¬ 0 = n + j := fun j => by omega
      refine W.seqk fun K hK => ?_
      have nx : ∀ (t' : Fr) (h' : Heap) (n' w : Nat), 0 < n' → w < 2 ^ 32 → (∀ j, w.testBit j = (decide (j < i + 1) && cycB g j)) → h' 0 = some (.cells [eGr g]) → (t' 1 = .ptr 0 0 0 ∧ t' 6 = .int .i64 M) → t' 3 = .int .u32 w → t' 7 = .int .i64 i → K t' h' n' := by
        intro t' h' n' w e1 e2 e3 e4 e5 e6 e7
        refine hK _ _ _ ?_
        clear hK K
        refine W.region (k := 2) rfl ?_
        simp only [go_sem, e7]
        refine ⟨M - (i + 1), by omega, i + 1, w, rfl, by omega, by omega, e2, e3, e4, e5, e6, ?_⟩
        rw [wrap64 (by omega) (by omega)]; rfl
      clear hK
      refine W.block ?_
      refine W.rseq (k := 2) rfl fun K hK => ?_
      simp only [go_sem, i9]
      refine hK _ _ _ ?_
      clear hK K
      refine W.seq ?_
      refine W.rseq (k := 3) rfl fun K hK => ?_
      simp only [go_sem, a1, i6]
      refine VCall.frz 6 (f87 g hg) rfl ?_
      simp only [go_sem, hr]
      refine hK _ _ _ ?_
      first | clear hK K | clear hK | skip
      refine W.condF (by simp only [go_sem]) ?_
      refine W.skip ?_
      simp only [go_sem]
      refine W.rseq (k := 5) rfl fun K hK => ?_
      simp only [go_sem, a1, i6]
      refine VCall.frz 6 hp rfl ?_
      simp only [go_sem]
      refine hK _ _ _ ?_
      first | clear hK K | clear hK | skip
      cases hcy : cycB g i
      · refine W.condF (by simp only [go_sem]; rw [wb_pos hw, hcy]) ?_
        refine W.skip ?_
        simp only [go_sem]
        refine nx _ _ _ w (by omega) i4 (fun j => ?_) i6 ⟨a1, a6⟩ i8 i9
        rw [i5 j]
        by_cases e : j = i
        · rw [e, hcy]; simp
        · rw [show decide (j < i + 1) = decide (j < i) from decide_eq_decide.2 (by omega)]
      · refine W.condT (by simp only [go_sem]; rw [wb_pos hw, hcy]) ?_
        refine W.region (k := 5) rfl ?_
        simp only [go_sem, i8, shl32 (show i < 32 by omega), or32 i4 (Nat.pow_lt_pow_right (by decide) (show i < 32 by omega))]
        refine nx _ _ _ (w ||| 2 ^ i) (by omega) (Nat.or_lt_two_pow i4 (Nat.pow_lt_pow_right (by decide) (by omega))) (fun j => ?_) i6 ⟨a1, a6⟩ rfl i9
        rw [Nat.testBit_or, i5 j, Nat.testBit_two_pow]
        by_cases e : i = j
        · subst e; rw [hcy]; simp
        · rw [show decide (j < i + 1) = decide (j < i) from decide_eq_decide.2 (by omega), decide_eq_false e, Bool.or_false]
    · refine W.exit ?_
      simp only [go_sem]
      have hi : i = M := by simp at hc; omega
      refine W.rseq (k := 2) rfl fun K hK => ?_
      simp only [go_sem, i8]
      refine hK _ _ _ ?_
      clear hK K
      refine W.ret ?_
      simp only [go_sem]
      exact ⟨w, i4, fun j hj => by rw [i5 j, decide_eq_true (by omega)]; rfl, rfl⟩
  obtain ⟨r, h', n', hb, w, w1, w2, rfl⟩ := fin
  exact ⟨w, w1, w2, _, h', n', hb, 1, fun fr => rfl⟩

theorem f100 (f : Fc) : PF pg Tq 100 [.agg (eFc f)] (.bool (decide (f.1 = 0))) := by
  refine Fb ?_
  refine FH.of (N := 6) (rs := #[.tmp 2]) Try.func100 rfl rfl (of_decide_eq_true rfl) rfl (by decide) ?_
  refine W.rseq (k := 2) rfl fun K hK => ?_
  simp only [go_sem]
  refine hK _ _ _ ?_
  clear hK K
  refine W.rseq (k := 4) rfl fun K hK => ?_
  simp only [go_sem]
  refine hK _ _ _ ?_
  clear hK K
  refine W.ret ?_
  simp only [go_sem]

set_option maxHeartbeats 4000000 in
theorem f101 (l : List Fc) (hl : l.length < 2 ^ 40) : PF pg Tq 101 [.ro (l.map eFc), .fn 100 []] (.int .i64 (sk (seek (zR l) l.length 0))) := by
  have fin : FH pg Tq 101 [.ro (l.map eFc), .fn 100 []] h0 0 fun r h n => r = .int .i64 (sk (seek (zR l) l.length 0)) := by
    refine FH.of (N := 19) (rs := #[.tmp 4]) Try.func101 rfl rfl (of_decide_eq_true rfl) rfl (by decide) ?_
    refine W.rseq (k := 1) rfl fun K hK => ?_
    simp only [go_sem]
    refine hK _ _ _ ?_
    clear hK K
    refine W.seq ?_
    refine W.rseq (k := 3) rfl fun K hK => ?_
    simp only [go_sem]
    refine hK _ _ _ ?_
    clear hK K
    refine W.block (W.while (fun m t h n => ∃ j : Nat, m = l.length - j ∧ j ≤ l.length ∧ seek (zR l) (l.length - j) j = seek (zR l) l.length 0 ∧ (t 0 = .ro (l.map eFc) ∧ t 1 = .fn 100 [] ∧ t 7 = .int .i64 l.length) ∧ t 8 = .int .i64 j) l.length
      ⟨0, by simp, by simp, by simp, ⟨rfl, rfl, by simp only [go_sem]⟩, rfl⟩ fun m t h n ⟨j, i1, i2, i3, i6, i7⟩ => ?_)
    have i6' := i6
    obtain ⟨a0, a1, a7⟩ := i6'
    refine W.rseq (k := 1) rfl fun K hK => ?_
    simp only [go_sem, a7, i7]
    refine hK _ _ _ ?_
    clear hK K
    refine W.seq ?_
    refine W.cond rfl (fun hc => ?_) fun hc => ?_
    · refine W.skip ?_
      simp only [go_sem]
      have hj : j < l.length := by simp at hc; omega
      obtain ⟨f, hf⟩ := get_some hj
      have hz : zR l j = decide (f.1 = 0) := by rw [zR, rk, Int.toNat_natCast, List.getD_eq_getElem?_getD, hf]; rfl
      rw [show l.length - j = (l.length - (j + 1)) + 1 by omega, seek, hz] at i3
      refine W.seq (W.block ?_)
      refine W.rseq (k := 2) rfl fun K hK => ?_
      simp only [go_sem, i7]
      refine hK _ _ _ ?_
      clear hK K
      refine W.rseq (k := 6) rfl fun K hK => ?_
      simp only [go_sem, a0, a1, i7, hf]
      refine VCall.frz 6 (f100 f) rfl ?_
      simp only [go_sem]
      refine hK _ _ _ ?_
      first | clear hK K | clear hK | skip
      by_cases e : f.1 = 0
      · rw [if_pos (by simpa using e)] at i3
        refine W.condT (by simp only [go_sem, e]) ?_
        refine W.rseq (k := 2) rfl fun K hK => ?_
        simp only [go_sem]
        refine hK _ _ _ ?_
        clear hK K
        refine W.ret ?_
        simp only [go_sem]
        rw [← i3]; rfl
      · rw [if_neg (by simpa using e)] at i3
        refine W.condF (by simp only [go_sem, decide_eq_false e]) ?_
        refine W.skip ?_
        simp only [go_sem]
        refine W.region (k := 2) rfl ?_
        simp only [go_sem, i7]
        refine ⟨l.length - (j + 1), by omega, j + 1, rfl, by omega, i3, ⟨a0, a1, a7⟩, ?_⟩
        rw [wrap64 (by omega) (by omega)]; rfl
    · refine W.exit ?_
      simp only [go_sem]
      have hj : j = l.length := by simp at hc; omega
      rw [hj, Nat.sub_self, seek] at i3
      refine W.rseq (k := 1) rfl fun K hK => ?_
      simp only [go_sem]
      refine hK _ _ _ ?_
      clear hK K
      refine W.ret ?_
      simp only [go_sem]
      rw [← i3]; rfl
  obtain ⟨r, h', n', hb, rfl⟩ := fin
  exact ⟨_, h', n', hb, 1, fun fr => rfl⟩

end Go.Av

/-
  Layer 14: soundness told. Conditions: none.
-/
namespace Go.Av
open Go.Proofs
set_option maxRecDepth 100000
set_option linter.unusedSimpArgs false
set_option linter.unusedVariables false

theorem bit_is1 {x t : Nat} : decide (((x / 2 ^ t % 2 : Nat) : Int) = 1) = x.testBit t := by
  rw [Nat.testBit_eq_decide_div_mod_eq]
  have := Nat.mod_lt (x / 2 ^ t) (show 0 < 2 by decide)
  by_cases h : x / 2 ^ t % 2 = 1
  · simp [h]
  · have h0 : x / 2 ^ t % 2 = 0 := by omega
    simp [h0]

theorem sk_neg {o : Option Nat} : decide (sk o ≥ 0) = o.isSome := by
  cases o with
  | none => rfl
  | some i => simp [sk]

set_option maxHeartbeats 4000000 in
theorem f66 (g : Gr) (hg : g.Small) : PF pg Tq 66 [.agg (eGr g)] (.tup [.int .i64 (checkL g).1, .int .i64 (checkL g).2]) := by
  have fin : FH pg Tq 66 [.agg (eGr g)] h0 0 fun r h n => r = .tup [.int .i64 (checkL g).1, .int .i64 (checkL g).2] := by
    refine FH.of (N := 40) (rs := #[.tmp 2, .tmp 3]) Try.func66 rfl rfl (of_decide_eq_true rfl) rfl (by decide) ?_
    refine W.rseq (k := 3) rfl fun K hK => ?_
    simp only [go_sem]
    refine hK _ _ _ ?_
    clear hK K
    refine W.seq ?_
    refine W.rseq (k := 3) rfl fun K hK => ?_
    simp only [go_sem]
    refine VCall.frz 6 (f87 g hg) rfl ?_
    try simp only [go_sem]
    refine hK _ _ _ ?_
    clear hK K
    cases hr : right g
    · refine W.condT (by simp only [go_sem, hr]) ?_
      refine W.rseq (k := 2) rfl fun K hK => ?_
      simp only [go_sem]
      refine hK _ _ _ ?_
      clear hK K
      refine W.ret ?_
      simp only [go_sem]
      rw [checkL, hr]; rfl
    refine W.condF (by simp only [go_sem, hr]) ?_
    refine W.skip ?_
    simp only [go_sem]
    obtain ⟨⟨hn1, hn2⟩, _, _, hp60, h5⟩ := right_in hr
    obtain ⟨M, hM⟩ : ∃ M, M = g.nons.toNat := ⟨_, rfl⟩
    have hMn : g.nons = (M : Int) := by omega
    have hl1 : (ranksL g true).length = M := by have := (ranks_fin (terms := true) hr).1; omega
    have hl2 : (reachL g).length = M := by have := (reach_fin hr).1; omega
    have hce : checkL g = match seek (zR (ranksL g true)) M 0 with
      | some i => ((i : Int), 8)
      | none => match seek (zR (reachL g)) M 0 with
        | some i => ((i : Int), 9)
        | none => match seek (cycB g) M 0 with
          | some i => ((i : Int), 10)
          | none => (0, 0) := by rw [checkL, hr, ← hM]; rfl
    have h1 := f101 (ranksL g true) (by omega)
    have h2 := f101 (reachL g) (by omega)
    rw [hl1] at h1
    rw [hl2] at h2
    obtain ⟨w, w1, w2, h3⟩ := f102 g hg hr
    rw [← hM] at w2
    refine W.rseq (k := 1) rfl fun K hK => ?_
    simp only [go_sem]
    refine hK _ _ _ ?_
    clear hK K
    refine W.seq ?_
    refine W.rseq (k := 5) rfl fun K hK => ?_
    simp only [go_sem]
    refine VCall.frz 6 (OwnFc.pf (f32 g hg)) rfl ?_
    simp only [go_sem]
    refine VCall.frz 6 h1 rfl ?_
    simp only [go_sem]
    refine hK _ _ _ ?_
    first | clear hK K | clear hK | skip
    refine W.rseq (k := 2) rfl fun K hK => ?_
    simp only [go_sem]
    refine hK _ _ _ ?_
    clear hK K
    cases hs1 : seek (zR (ranksL g true)) M 0 with
    | some i =>
      refine W.condT (by simp only [go_sem]; rw [sk_neg]; rfl) ?_
      refine W.rseq (k := 3) rfl fun K hK => ?_
      simp only [go_sem]
      refine hK _ _ _ ?_
      clear hK K
      refine W.ret ?_
      simp only [go_sem]
      rw [hce, hs1]; rfl
    | none =>
    refine W.condF (by simp only [go_sem]; rw [sk_neg]; rfl) ?_
    refine W.skip ?_
    simp only [go_sem]
    refine W.seq ?_
    refine W.rseq (k := 5) rfl fun K hK => ?_
    simp only [go_sem]
    refine VCall.frz 6 (OwnFc.pf (f38 g hg)) rfl ?_
    simp only [go_sem]
    refine VCall.frz 6 h2 rfl ?_
    simp only [go_sem]
    refine hK _ _ _ ?_
    first | clear hK K | clear hK | skip
    refine W.rseq (k := 2) rfl fun K hK => ?_
    simp only [go_sem]
    refine hK _ _ _ ?_
    clear hK K
    cases hs2 : seek (zR (reachL g)) M 0 with
    | some i =>
      refine W.condT (by simp only [go_sem]; rw [sk_neg]; rfl) ?_
      refine W.rseq (k := 3) rfl fun K hK => ?_
      simp only [go_sem]
      refine hK _ _ _ ?_
      clear hK K
      refine W.ret ?_
      simp only [go_sem]
      rw [hce, hs1, hs2]; rfl
    | none =>
    refine W.condF (by simp only [go_sem]; rw [sk_neg]; rfl) ?_
    refine W.skip ?_
    simp only [go_sem]
    rw [hs1, hs2] at hce
    simp only at hce
    refine W.rseq (k := 3) rfl fun K hK => ?_
    simp only [go_sem]
    refine VCall.frz 6 h3 rfl ?_
    try simp only [go_sem]
    refine hK _ _ _ ?_
    clear hK K
    refine W.seq ?_
    refine W.rseq (k := 3) rfl fun K hK => ?_
    simp only [go_sem]
    refine hK _ _ _ ?_
    clear hK K
    refine W.block (W.while (fun m t h n => ∃ (i : Nat), m = M - i ∧ i ≤ M ∧ seek (cycB g) (M - i) i = seek (cycB g) M 0 ∧ (t 7 = .int .u32 w ∧ t 29 = .int .i64 M) ∧ t 30 = .int .i64 i) M
      ⟨0, by simp, by simp, by simp, ⟨rfl, by simp only [go_sem, hMn]⟩, rfl⟩ fun m t h n ⟨i, i1, i2, i3, i7, i9⟩ => ?_)
    have i7' := i7
    obtain ⟨a7, a29⟩ := i7'
    refine W.rseq (k := 1) rfl fun K hK => ?_
    simp only [go_sem, a29, i9]
    refine hK _ _ _ ?_
    clear hK K
    refine W.seq ?_
    refine W.cond rfl (fun hc => ?_) fun hc => ?_
    · refine W.skip ?_
      simp only [go_sem]
      have hi : i < M := by simp at hc; omega
      have hw := w2 i hi
      rw [show M - i = (M - (i + 1)) + 1 by omega, seek] at i3
      refine W.seq (W.block ?_)
      refine W.rseq (k := 2) rfl fun K hK => ?_
      simp only [go_sem, i9]
      refine hK _ _ _ ?_
      clear hK K
      refine W.rseq (k := 5) rfl fun K hK => ?_
      simp only [go_sem, a7, shr32 (x := w) (show i < 32 by omega), and32 (x := w / 2 ^ i) (Nat.lt_of_le_of_lt (Nat.div_le_self _ _) w1)]
      refine hK _ _ _ ?_
      clear hK K
      cases hcy : cycB g i
      · rw [hcy] at i3 hw
        refine W.condF (by simp only [go_sem]; rw [bit_is1, hw]) ?_
        refine W.skip ?_
        simp only [go_sem]
        refine W.region (k := 2) rfl ?_
        simp only [go_sem, i9]
        refine ⟨M - (i + 1), by omega, i + 1, rfl, by omega, i3, ⟨a7, a29⟩, ?_⟩
        rw [wrap64 (by omega) (by omega)]; rfl
      · rw [hcy] at i3 hw
        refine W.condT (by simp only [go_sem]; rw [bit_is1, hw]) ?_
        refine W.rseq (k := 3) rfl fun K hK => ?_
        simp only [go_sem]
        refine hK _ _ _ ?_
        clear hK K
        refine W.ret ?_
        simp only [go_sem]
        rw [hce, ← i3]; rfl
    · refine W.exit ?_
      simp only [go_sem]
      have hi : i = M := by simp at hc; omega
      rw [hi, Nat.sub_self, seek] at i3
      refine W.rseq (k := 2) rfl fun K hK => ?_
      simp only [go_sem]
      refine hK _ _ _ ?_
      clear hK K
      refine W.ret ?_
      simp only [go_sem]
      rw [hce, ← i3]
  obtain ⟨r, h', n', hb, rfl⟩ := fin
  exact ⟨_, h', n', hb, 3, fun fr => rfl⟩

end Go.Av

/-
  Layer 14: soundness shown. Conditions: none.
-/
namespace Go.Av
open Go.Proofs
set_option maxRecDepth 100000
set_option linter.unusedSimpArgs false
set_option linter.unusedVariables false

def gS1 : Gr := ⟨1, 1, 0, [⟨0, [⟨true, 0⟩, ⟨false, 0⟩]⟩, ⟨0, [⟨false, 0⟩]⟩]⟩
def gS2 : Gr := ⟨1, 1, 0, [⟨0, [⟨false, 0⟩, ⟨true, 0⟩]⟩, ⟨0, []⟩]⟩
def gS3 : Gr := ⟨0, 2, 0, [⟨0, []⟩]⟩
def gS4 : Gr := ⟨0, 2, 0, [⟨0, []⟩, ⟨1, []⟩]⟩
def gS5 : Gr := ⟨0, 0, 0, []⟩

theorem gS1_small : gS1.Small := by
  refine ⟨by decide, fun p hp => ?_⟩
  simp [gS1] at hp
  rcases hp with rfl | rfl <;> decide
theorem gS2_small : gS2.Small := by
  refine ⟨by decide, fun p hp => ?_⟩
  simp [gS2] at hp
  rcases hp with rfl | rfl <;> decide
theorem gS3_small : gS3.Small := by
  refine ⟨by decide, fun p hp => ?_⟩
  simp [gS3] at hp
  rcases hp with rfl <;> decide
theorem gS4_small : gS4.Small := by
  refine ⟨by decide, fun p hp => ?_⟩
  simp [gS4] at hp
  rcases hp with rfl | rfl <;> decide
theorem gS5_small : gS5.Small := by
  refine ⟨by decide, fun p hp => ?_⟩
  simp [gS5] at hp

theorem checkS1 : checkL gS1 = (0, 10) := by
  have hs : stepsG gS1 = [⟨0, 0, 0, 0⟩] := by kernel_rfl
  have hc : cycB gS1 0 = true := cycB_iff.2 ⟨[⟨0, 0, 0, 0⟩], by simp, by rw [hs]; exact ⟨by simp, rfl, rfl⟩⟩
  have h3 : seek (cycB gS1) gS1.nons.toNat 0 = some 0 := by
    show (if cycB gS1 0 = true then some 0 else none) = some 0
    rw [hc]; rfl
  rw [checkL, show right gS1 = true by kernel_rfl, show seek (zR (ranksL gS1 true)) gS1.nons.toNat 0 = none by kernel_rfl, show seek (zR (reachL gS1)) gS1.nons.toNat 0 = none by kernel_rfl, h3]
  rfl

theorem checkS2 : checkL gS2 = (0, 0) := by
  have hs : stepsG gS2 = [] := by kernel_rfl
  have hc : cycB gS2 0 = false := by
    cases h : cycB gS2 0
    · rfl
    · obtain ⟨l, h1, h2⟩ := cycB_iff.1 h
      rw [hs] at h2
      cases l with
      | nil => exact absurd rfl h1
      | cons x l => cases h2.1
  have h3 : seek (cycB gS2) gS2.nons.toNat 0 = none := by
    show (if cycB gS2 0 = true then some 0 else none) = none
    rw [hc]; rfl
  rw [checkL, show right gS2 = true by kernel_rfl, show seek (zR (ranksL gS2 true)) gS2.nons.toNat 0 = none by kernel_rfl, show seek (zR (reachL gS2)) gS2.nons.toNat 0 = none by kernel_rfl, h3]
  rfl

theorem checkS3 : checkL gS3 = (1, 8) := by
  rw [checkL, show right gS3 = true by kernel_rfl, show seek (zR (ranksL gS3 true)) gS3.nons.toNat 0 = some 1 by kernel_rfl]
  rfl

theorem checkS4 : checkL gS4 = (1, 9) := by
  rw [checkL, show right gS4 = true by kernel_rfl, show seek (zR (ranksL gS4 true)) gS4.nons.toNat 0 = none by kernel_rfl, show seek (zR (reachL gS4)) gS4.nons.toNat 0 = some 1 by kernel_rfl]
  rfl

theorem checkS5 : checkL gS5 = (0, 1) := by
  rw [checkL, show right gS5 = false by kernel_rfl]
  rfl

set_option maxHeartbeats 4000000 in
theorem f65 : PF pg Tq 65 [] (.bool true) := by
  have h1 := f66 gS1 gS1_small
  have h2 := f66 gS2 gS2_small
  have h3 := f66 gS3 gS3_small
  have h4 := f66 gS4 gS4_small
  have h5 := f66 gS5 gS5_small
  rw [checkS1] at h1
  rw [checkS2] at h2
  rw [checkS3] at h3
  rw [checkS4] at h4
  rw [checkS5] at h5
  refine Fb ?_
  refine FH.of (N := 89) (rs := #[.tmp 0]) Try.func65 rfl rfl (of_decide_eq_true rfl) rfl (by decide) ?_
  refine W.rseq (k := 1) rfl fun K hK => ?_
  simp only [go_sem]
  refine hK _ _ _ ?_
  clear hK K
  refine W.rseq (k := 15) rfl fun K hK => ?_
  simp only [go_sem, show (0 : Nat) < 2 by omega, show ¬ (2 : Nat) = 0 by omega, show ¬ (1 : Nat) = 0 by omega, show (0 : Nat) < 1 by omega]
  refine VCall.frzq 20 (by kernel_rfl) h1 ?_
  simp only [go_sem]
  refine hK _ _ _ ?_
  first | clear hK K | clear hK | skip
  refine W.rseq (k := 13) rfl fun K hK => ?_
  simp only [go_sem, show (0 : Nat) < 2 by omega, show ¬ (2 : Nat) = 0 by omega, show ¬ (1 : Nat) = 0 by omega, show (0 : Nat) < 1 by omega]
  refine VCall.frzq 20 (by kernel_rfl) h2 ?_
  simp only [go_sem]
  refine hK _ _ _ ?_
  first | clear hK K | clear hK | skip
  refine W.rseq (k := 9) rfl fun K hK => ?_
  simp only [go_sem, show (0 : Nat) < 2 by omega, show ¬ (2 : Nat) = 0 by omega, show ¬ (1 : Nat) = 0 by omega, show (0 : Nat) < 1 by omega]
  refine VCall.frzq 20 (by kernel_rfl) h3 ?_
  simp only [go_sem]
  refine hK _ _ _ ?_
  first | clear hK K | clear hK | skip
  refine W.rseq (k := 10) rfl fun K hK => ?_
  simp only [go_sem, show (0 : Nat) < 2 by omega, show ¬ (2 : Nat) = 0 by omega, show ¬ (1 : Nat) = 0 by omega, show (0 : Nat) < 1 by omega]
  refine VCall.frzq 20 (by kernel_rfl) h4 ?_
  simp only [go_sem]
  refine hK _ _ _ ?_
  first | clear hK K | clear hK | skip
  refine W.rseq (k := 7) rfl fun K hK => ?_
  simp only [go_sem]
  refine VCall.frzq 20 (by kernel_rfl) h5 ?_
  simp only [go_sem]
  refine hK _ _ _ ?_
  first | clear hK K | clear hK | skip
  refine W.rseq (k := 35) rfl fun K hK => ?_
  simp only [go_sem]
  refine hK _ _ _ ?_
  first | clear hK K | clear hK | skip
  refine W.ret ?_
  simp only [go_sem]

theorem rk_pos {l : List Fc} {b : Int} (h : Bd l b) {i : Nat} (hz : zR l i = false) : decide (rk l i > 0) = true := by
  have := (h i).1
  have hn : ¬ rk l i = 0 := by simpa [zR] using hz
  exact decide_eq_true (by omega)

theorem rk_zero {l : List Fc} {i : Nat} (hz : zR l i = true) : decide (rk l i > 0) = false := by
  have hn : rk l i = 0 := by simpa [zR] using hz
  exact decide_eq_false (by omega)

set_option maxHeartbeats 8000000 in
theorem f19 (g : Gr) (hg : g.Small) : FH pg Tq 19 [.agg (eGr g)] h0 0 fun r _ _ => r = .bool true := by
  refine FH.of (N := 128) (rs := #[.tmp 2]) Try.func19 rfl rfl (of_decide_eq_true rfl) rfl (by decide) ?_
  refine W.rseq (k := 2) rfl fun K hK => ?_
  simp only [go_sem]
  refine hK _ _ _ ?_
  clear hK K
  refine W.seq ?_
  refine W.rseq (k := 2) rfl fun K hK => ?_
  simp only [go_sem]
  refine VCall.frz 6 f65 rfl ?_
  try simp only [go_sem]
  refine hK _ _ _ ?_
  clear hK K
  refine W.condF (by simp only [go_sem]) ?_
  refine W.skip ?_
  simp only [go_sem]
  refine W.seq ?_
  refine W.rseq (k := 7) rfl fun K hK => ?_
  simp only [go_sem]
  refine VCall.frz 6 (f28 g hg) rfl ?_
  cases hlg : large g with
  | true =>
    simp only [go_sem]
    refine hK _ _ _ ?_
    first | clear hK K | clear hK | skip
    refine W.condT (by simp only [go_sem]) ?_
    refine W.rseq (k := 1) rfl fun K hK => ?_
    simp only [go_sem]
    refine hK _ _ _ ?_
    clear hK K
    refine W.ret ?_
    simp only [go_sem]
  | false =>
  simp only [go_sem]
  refine VCall.frz 6 (f35 g hg) rfl ?_
  cases hr : right g
  · simp only [go_sem]
    refine hK _ _ _ ?_
    first | clear hK K | clear hK | skip
    refine W.condT (by simp only [go_sem]) ?_
    refine W.rseq (k := 1) rfl fun K hK => ?_
    simp only [go_sem]
    refine hK _ _ _ ?_
    clear hK K
    refine W.ret ?_
    simp only [go_sem]
  simp only [go_sem]
  refine hK _ _ _ ?_
  first | clear hK K | clear hK | skip
  refine W.condF (by simp only [go_sem]) ?_
  refine W.skip ?_
  simp only [go_sem]
  obtain ⟨⟨hn1, hn2⟩, _, _, hp60, h5⟩ := right_in hr
  obtain ⟨M, hM⟩ : ∃ M, M = g.nons.toNat := ⟨_, rfl⟩
  have hMn : g.nons = (M : Int) := by omega
  obtain ⟨hl1, ⟨b1, hb1⟩, _⟩ := ranks_fin (terms := true) hr
  obtain ⟨hl2, ⟨b2, hb2⟩, _⟩ := reach_fin hr
  have h66 := f66 g hg
  obtain ⟨R1, hR1⟩ : ∃ R1, R1 = ranksL g true := ⟨_, rfl⟩
  obtain ⟨R2, hR2⟩ : ∃ R2, R2 = reachL g := ⟨_, rfl⟩
  have h32 := OwnFc.pf (f32 g hg)
  have h38 := OwnFc.pf (f38 g hg)
  have hce : checkL g = match seek (zR R1) M 0 with
    | some i => ((i : Int), 8)
    | none => match seek (zR R2) M 0 with
      | some i => ((i : Int), 9)
      | none => match seek (cycB g) M 0 with
        | some i => ((i : Int), 10)
        | none => (0, 0) := by rw [checkL, hr, ← hM, hR1, hR2]; rfl
  rw [← hR1] at h32 hl1 hb1
  rw [← hR2] at h38 hl2 hb2
  have hck : ∃ (a : Nat) (k : Int), checkL g = ((a : Int), k) ∧ a < M ∧ (
      (k = 8 ∧ zR R1 a = true) ∨ (k = 9 ∧ zR R1 a = false ∧ zR R2 a = true) ∨ (k = 10 ∧ zR R1 a = false ∧ zR R2 a = false ∧ cycB g a = true) ∨
      (k = 0 ∧ a = 0 ∧ ∀ i, i < M → zR R1 i = false ∧ zR R2 i = false ∧ cycB g i = false)) := by
    cases e1 : seek (zR R1) M 0 with
    | some i =>
      rw [e1] at hce
      obtain ⟨_, q2, q3, _⟩ := seek_some e1
      exact ⟨i, 8, hce, by omega, .inl ⟨rfl, q3⟩⟩
    | none =>
      rw [e1] at hce
      have q1 := seek_none e1
      cases e2 : seek (zR R2) M 0 with
      | some i =>
        rw [e2] at hce
        obtain ⟨_, q2, q3, _⟩ := seek_some e2
        exact ⟨i, 9, hce, by omega, .inr (.inl ⟨rfl, q1 i (by omega) (by omega), q3⟩)⟩
      | none =>
        rw [e2] at hce
        have q2 := seek_none e2
        cases e3 : seek (cycB g) M 0 with
        | some i =>
          rw [e3] at hce
          obtain ⟨_, q4, q3, _⟩ := seek_some e3
          exact ⟨i, 10, hce, by omega, .inr (.inr (.inl ⟨rfl, q1 i (by omega) (by omega), q2 i (by omega) (by omega), q3⟩))⟩
        | none =>
          rw [e3] at hce
          have q3 := seek_none e3
          exact ⟨0, 0, hce, by omega, .inr (.inr (.inr ⟨rfl, rfl, fun i hi => ⟨q1 i (by omega) (by omega), q2 i (by omega) (by omega), q3 i (by omega) (by omega)⟩⟩))⟩
  obtain ⟨a, k, hak, haM, hlaw⟩ := hck
  rw [hak] at h66
  clear hce hR1 hR2 hak
  refine W.rseq (k := 7) rfl fun K hK => ?_
  simp only [go_sem]
  refine VCall.frz 6 h66 rfl ?_
  simp only [go_sem]
  refine hK _ _ _ ?_
  first | clear hK K | clear hK | skip
  refine W.dseq (k := 6) rfl fun K hK => ?_
  simp only [go_sem]
  refine VCall.frz 6 h32 rfl ?_
  simp only [go_sem]
  refine VCall.frz 6 h38 rfl ?_
  simp only [go_sem]
  refine hK _ _ _ _ (by kernel_rfl) ?_
  clear hK K
  refine W.seq ?_
  refine W.rseq (k := 22) rfl fun K hK => ?_
  simp only [go_sem, hl1, hl2, decide_eq_false (show ¬ ((a : Int) < 0) by omega), decide_eq_false (show ¬ ((a : Int) ≥ g.nons) by omega)]
  refine hK _ _ _ ?_
  clear hK K
  refine W.condF (by simp only [go_sem]) ?_
  refine W.skip ?_
  simp only [go_sem]
  refine W.rseq (k := 1) rfl fun K hK => ?_
  simp only [go_sem]
  refine hK _ _ _ ?_
  clear hK K
  refine W.seqk fun K hK => ?_
  refine W.rseq (k := 3) rfl fun K hK => ?_
  simp only [go_sem]
  refine hK _ _ _ ?_
  clear hK K
  have nx : ∀ (t' : Fr) (h' : Heap) (n' : Nat) (b : Bool), 0 < n' → ((∀ j, j < M → zR R1 j = false ∧ zR R2 j = false ∧ cycB g j = false) → b = true) → h' 0 = some (.cells [eGr g]) → (t' 1 = .ptr 0 0 0 ∧ t' 3 = .int .i64 a ∧ t' 4 = .int .i64 k ∧ t' 5 = .ro (R1.map eFc) ∧ t' 6 = .ro (R2.map eFc)) → t' 7 = .bool b → K t' h' n' := by
    intro t' h' n' b e1 e2 e3 e4 e5
    refine hK _ _ _ ?_
    clear hK K
    obtain ⟨a1, a3, a4, a5, a6⟩ := e4
    obtain ⟨y1, hy1⟩ := fc_get (l := R1) (n := (a : Int)) (by omega) (by omega)
    obtain ⟨y2, hy2⟩ := fc_get (l := R2) (n := (a : Int)) (by omega) (by omega)
    rw [Int.toNat_natCast] at hy1 hy2
    refine W.seq ?_
    refine W.rseq (k := 1) rfl fun K hK => ?_
    simp only [go_sem]
    refine hK _ _ _ ?_
    clear hK K
    refine W.block ?_
    rcases hlaw with ⟨rfl, c1⟩ | ⟨rfl, c1, c2⟩ | ⟨rfl, c1, c2, c3⟩ | ⟨rfl, rfl, c1⟩
    · have hz1 : rk R1 a = 0 := by simpa [zR] using c1
      refine W.rseq (k := 2) rfl fun K hK => ?_
      simp only [go_sem, a4]
      refine hK _ _ _ ?_
      clear hK K
      refine W.condF (by simp only [go_sem]) ?_
      refine W.rseq (k := 2) rfl fun K hK => ?_
      simp only [go_sem, a4]
      refine hK _ _ _ ?_
      clear hK K
      refine W.condT (by simp only [go_sem]) ?_
      refine W.rseq (k := 7) rfl fun K hK => ?_
      simp only [go_sem, a3, a5, hy1, hz1]
      refine hK _ _ _ ?_
      clear hK K
      refine W.ret ?_
      simp only [go_sem]
    · have hz2 : rk R2 a = 0 := by simpa [zR] using c2
      have hz1 := rk_pos hb1 c1
      refine W.rseq (k := 2) rfl fun K hK => ?_
      simp only [go_sem, a4]
      refine hK _ _ _ ?_
      clear hK K
      refine W.condF (by simp only [go_sem]) ?_
      refine W.rseq (k := 2) rfl fun K hK => ?_
      simp only [go_sem, a4]
      refine hK _ _ _ ?_
      clear hK K
      refine W.condF (by simp only [go_sem]) ?_
      refine W.rseq (k := 2) rfl fun K hK => ?_
      simp only [go_sem, a4]
      refine hK _ _ _ ?_
      clear hK K
      refine W.condT (by simp only [go_sem]) ?_
      refine W.rseq (k := 15) rfl fun K hK => ?_
      simp only [go_sem, a3, a5, a6, hy1, hy2, hz1, hz2]
      refine hK _ _ _ ?_
      clear hK K
      refine W.ret ?_
      simp only [go_sem]
    · obtain ⟨l, hp, hw⟩ := f68 g hg hr a (by omega)
      have hz2 := rk_pos hb2 c2
      refine W.rseq (k := 2) rfl fun K hK => ?_
      simp only [go_sem, a4]
      refine hK _ _ _ ?_
      clear hK K
      refine W.condF (by simp only [go_sem]) ?_
      refine W.rseq (k := 2) rfl fun K hK => ?_
      simp only [go_sem, a4]
      refine hK _ _ _ ?_
      clear hK K
      refine W.condF (by simp only [go_sem]) ?_
      refine W.rseq (k := 2) rfl fun K hK => ?_
      simp only [go_sem, a4]
      refine hK _ _ _ ?_
      clear hK K
      refine W.condF (by simp only [go_sem]) ?_
      refine W.rseq (k := 2) rfl fun K hK => ?_
      simp only [go_sem, a4]
      refine hK _ _ _ ?_
      clear hK K
      refine W.condT (by simp only [go_sem]) ?_
      refine W.dseq (k := 16) rfl fun K hK => ?_
      simp only [go_sem, a1, a3, e3]
      refine VCall.frz 6 hp rfl ?_
      simp only [go_sem]
      obtain ⟨hl, ⟨_, hn⟩ | ⟨hne, hpt⟩⟩ := hw
      · exact absurd (cycB_iff.1 c3) hn
      refine VCall.frz 6 (f69 g hg hr a a l hl hne hpt) rfl ?_
      simp only [go_sem, a3, a6, hy2, hz2]
      refine hK _ _ _ _ (by kernel_rfl) ?_
      clear hK K
      refine W.ret ?_
      simp only [go_sem]
    · have hb := e2 c1
      refine W.rseq (k := 2) rfl fun K hK => ?_
      simp only [go_sem, a4]
      refine hK _ _ _ ?_
      clear hK K
      refine W.condT (by simp only [go_sem]) ?_
      refine W.rseq (k := 6) rfl fun K hK => ?_
      simp only [go_sem, e5, hb, a3]
      refine hK _ _ _ ?_
      clear hK K
      refine W.ret ?_
      simp only [go_sem]
  clear hK
  refine W.block (W.while (fun m t h n => ∃ (i : Nat) (b : Bool), m = M - i ∧ i ≤ M ∧ 0 < n ∧ ((∀ j, j < M → zR R1 j = false ∧ zR R2 j = false ∧ cycB g j = false) → b = true) ∧ h 0 = some (.cells [eGr g]) ∧ (t 1 = .ptr 0 0 0 ∧ t 3 = .int .i64 a ∧ t 4 = .int .i64 k ∧ t 5 = .ro (R1.map eFc) ∧ t 6 = .ro (R2.map eFc)) ∧ t 50 = .int .i64 M ∧ t 51 = .int .i64 i ∧ t 7 = .bool b) M
    ⟨0, true, by simp, by simp, by omega, fun _ => rfl, by simp only [go_sem], ⟨rfl, rfl, rfl, rfl, rfl⟩, by simp only [go_sem, hMn], rfl, rfl⟩ fun m t h n ⟨i, b, i1, i2, i3, i4, i5, i6, i7, i8, i9⟩ => ?_)
  have i6' := i6
  obtain ⟨a1, a3, a4, a5, a6⟩ := i6'
  refine W.rseq (k := 1) rfl fun K hK => ?_
  simp only [go_sem, i7, i8]
  refine hK _ _ _ ?_
  clear hK K
  refine W.seq ?_
  refine W.cond rfl (fun hc => ?_) fun hc => ?_
  · refine W.skip ?_
    simp only [go_sem]
    have hi : i < M := by simp at hc; omega
    obtain ⟨l, hp, hw⟩ := f68 g hg hr i (by omega)
    obtain ⟨y1, hy1⟩ := fc_get (l := R1) (n := (i : Int)) (by omega) (by omega)
    obtain ⟨y2, hy2⟩ := fc_get (l := R2) (n := (i : Int)) (by omega) (by omega)
    rw [Int.toNat_natCast] at hy1 hy2
    refine W.seqk fun K hK => ?_
    have nx2 : ∀ (t' : Fr) (h' : Heap) (n' : Nat) (b : Bool), 0 < n' → ((∀ j, j < M → zR R1 j = false ∧ zR R2 j = false ∧ cycB g j = false) → b = true) → h' 0 = some (.cells [eGr g]) → (t' 1 = .ptr 0 0 0 ∧ t' 3 = .int .i64 a ∧ t' 4 = .int .i64 k ∧ t' 5 = .ro (R1.map eFc) ∧ t' 6 = .ro (R2.map eFc)) → t' 50 = .int .i64 M → t' 51 = .int .i64 i → t' 7 = .bool b → K t' h' n' := by
      intro t' h' n' b e1 e2 e3 e4 e5 e6 e7
      refine hK _ _ _ ?_
      clear hK K
      refine W.region (k := 2) rfl ?_
      simp only [go_sem, e6]
      refine ⟨M - (i + 1), by omega, i + 1, b, rfl, by omega, by omega, e2, e3, e4, e5, ?_, e7⟩
      rw [wrap64 (by omega) (by omega)]; rfl
    clear hK
    refine W.block ?_
    refine W.rseq (k := 2) rfl fun K hK => ?_
    simp only [go_sem, i8]
    refine hK _ _ _ ?_
    clear hK K
    refine W.region (k := 25) rfl ?_
    cases hb : b
    · simp only [go_sem, i9, hb]
      exact nx2 _ _ _ false (by omega) (fun h => by rw [hb] at i4; exact i4 h) i5 i6 i7 i8 rfl
    cases hz1 : zR R1 i with
    | true =>
      have hq := rk_zero hz1
      simp only [go_sem, i9, hb, a5, i8, hy1, hq]
      exact nx2 _ _ _ false (by omega) (fun h => by have := (h i hi).1; rw [hz1] at this; cases this) i5 i6 i7 i8 rfl
    | false =>
    cases hz2 : zR R2 i with
    | true =>
      have hq := rk_zero hz2
      simp only [go_sem, i9, hb, a5, a6, i8, hy1, hy2, rk_pos hb1 hz1, hq]
      exact nx2 _ _ _ false (by omega) (fun h => by have := (h i hi).2.1; rw [hz2] at this; cases this) i5 i6 i7 i8 rfl
    | false =>
    simp only [go_sem, i9, hb, a1, a5, a6, i8, i5, hy1, hy2, rk_pos hb1 hz1, rk_pos hb2 hz2]
    refine VCall.frz 6 hp rfl ?_
    have hw0 : decide ((l.length : Int) = 0) = !cycB g i := by
      rw [← wb_pos hw]
      by_cases e : (l.length : Int) = 0
      · rw [decide_eq_true e, decide_eq_false (by omega)]; rfl
      · rw [decide_eq_false e, decide_eq_true (by omega)]; rfl
    simp only [go_sem, hw0]
    exact nx2 _ _ _ (!cycB g i) (by omega) (fun h => by rw [(h i hi).2.2]; rfl) i5 i6 i7 i8 rfl
  · refine W.exit ?_
    simp only [go_sem]
    exact nx _ _ _ b (by omega) i4 i5 i6 i9

end Go.Av
