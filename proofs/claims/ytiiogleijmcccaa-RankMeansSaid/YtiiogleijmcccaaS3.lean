/-
  What comes of grammars, by definition: tokens. Conditions: none.
-/
import Derived.Test.YtiiogleijmcccaaS2
namespace Go.Av
open Go.Proofs
set_option maxRecDepth 100000
set_option linter.unusedSimpArgs false
set_option linter.unusedVariables false

def tokF (w : List Int) (t : Int) (a b : Nat) : Bool := decide (b = a + 1) && decide (w[a]? = some t)

theorem T2.set {h : Heap} {lo hi b : Nat} {leaf : Nat → Nat} {m k : Nat} {f : Nat → Nat → Bool} (t : T2 h lo hi b leaf m k f) {a j : Nat} {v : Bool} (ha : a < m) :
    T2 (upd h (leaf a) (some (.cells (e1 k fun x => if x = j then v else f a x)))) lo hi b leaf m k (fun a' b' => if a' = a ∧ b' = j then v else f a' b') := by
  refine ⟨t.lob, t.hib, ?_, t.at', fun i hi => ?_, t.inj⟩
  · rw [upd_app, if_neg (Ne.symm (t.at' a ha).2.2)]; exact t.top
  · unfold T1
    rw [upd_app]
    by_cases e : i = a
    · subst e
      rw [if_pos rfl]
      congr 2
      exact e1_congr fun x _ => by simp
    · rw [if_neg fun h => e (t.inj _ _ hi ha h)]
      have := t.row i hi
      unfold T1 at this
      rw [this]
      congr 2
      exact e1_congr fun x _ => by simp [e]

theorem T2.congr {h : Heap} {lo hi b : Nat} {leaf : Nat → Nat} {m k : Nat} {f g : Nat → Nat → Bool} (t : T2 h lo hi b leaf m k f) (e : ∀ i j, i < m → j < k → f i j = g i j) : T2 h lo hi b leaf m k g :=
  ⟨t.lob, t.hib, t.top, t.at', fun i hi => by
    have := t.row i hi
    unfold T1 at this ⊢
    rw [this, e1_congr fun j hj => e i j hi hj], t.inj⟩

theorem range_get {α : Type} {f : Nat → α} {n i : Nat} (h : i < n) : ((List.range n).map f)[i]? = some (f i) := by simp [h]

theorem f90 (w : List Int) (t' : Int) (hw : w.length < 2 ^ 40) : PF pg Tq 90 [.ro (w.map eIn), .int .i64 t'] (.ro (e2 (w.length + 1) (w.length + 1) (tokF w t'))) := by
  generalize hN : w.length + 1 = N
  have fin : FH pg Tq 90 [.ro (w.map eIn), .int .i64 t'] h0 0 fun r h _ => ∃ b lo hi leaf, r = .sl b 0 N 1 ∧ T2 h lo hi b leaf N N (tokF w t') := by
    refine FH.of (N := 32) (rs := #[.tmp 4]) Try.func90 rfl rfl (of_decide_eq_true rfl) rfl (by decide) ?_
    refine W.rseq (k := 1) rfl fun K hK => ?_
    simp only [go_sem]
    refine hK _ _ _ ?_
    clear hK K
    refine W.rseq (k := 6) rfl fun K hK => ?_
    simp only [go_sem]
    refine VCall.heap (f89 1 w.length (by omega) (by omega) hw _ _) fun r h' x' ⟨top, cut, mid, leaf, er, hx, T, hfr⟩ => ?_
    subst er
    rw [hN] at T
    simp only [go_sem, T.top, slL_get (k := N) (f := mid) (show 0 < 1 by omega)]
    refine hK _ _ _ ?_
    clear hK K
    have T' := T.tab 0 (by omega)
    have hx2 := T.up
    have hx3 := T.hib
    refine W.seq ?_
    refine W.rseq (k := 1) rfl fun K hK => ?_
    simp only [go_sem]
    refine hK _ _ _ ?_
    clear hK K
    refine W.block (W.while (fun m t h n => ∃ (i : Nat) (F : Nat → Nat → Bool), m = w.length - i ∧ i ≤ w.length ∧ cut 1 < n ∧ t 0 = .ro (w.map eIn) ∧ t 1 = .int .i64 t' ∧ t 5 = .sl (mid 0) 0 N 1 ∧ t 6 = .int .i64 i ∧ T2 h (cut 0) (cut 1) (mid 0) (leaf 0) N N F ∧ ∀ a b, F a b = (decide (a < i) && tokF w t' a b)) w.length
      ⟨0, _, by simp, by simp, by omega, rfl, rfl, rfl, rfl, T', fun a b => by simp⟩ fun m t h n ⟨i, F, i1, i2, i3, i4, i5, i6, i7, i8, i9⟩ => ?_)
    refine W.seq ?_
    refine W.rseq (k := 4) rfl fun K hK => ?_
    simp only [go_sem, i4, i7]
    refine hK _ _ _ ?_
    clear hK K
    refine W.cond rfl (fun hc => ?_) fun hc => ?_
    · refine W.skip ?_
      simp only [go_sem]
      have hi : i < w.length := by simp at hc; omega
      obtain ⟨x, hx'⟩ := get_some hi
      refine W.seq (W.block ?_)
      have hrow := i8.row i (by omega)
      have hat := i8.at' i (by omega)
      unfold T1 at hrow
      have hwr : IntKind.wrap .i64 ((i : Int) + 1) = ((i + 1 : Nat) : Int) := by rw [wrap64 (by omega) (by omega)]; rfl
      have hN' : w.length + 1 = N := hN
      refine W.draw (k := 14) rfl ?_
      simp only [go_sem, i4, i5, i6, i7, i8.top, hx', hwr, hrow, slL_get (k := N) (f := leaf 0) (show i < N by omega), show (i : Int) < (N : Int) by omega, show ((i + 1 : Nat) : Int) < (N : Int) by omega, e1_get (k := N) (j := i + 1) (f := F i) (by omega), show mid 0 < n + 4 from Nat.lt_of_lt_of_le (Nat.lt_trans i8.hib i3) (Nat.le_add_right _ _), e1_set]
      refine ⟨by kernel_rfl, ?_⟩
      refine W.region (k := 3) rfl ?_
      simp only [go_sem, i7]
      refine ⟨w.length - (i + 1), by omega, i + 1, _, rfl, by omega, by omega, i4, i5, i6, ?_, i8.set (a := i) (j := i + 1) (v := x == t') (by omega), fun a b => ?_⟩
      · rw [hwr]
      · rw [i9]
        by_cases e : a = i
        · subst e
          unfold tokF
          rw [hx']
          by_cases e2 : b = a + 1
          · simp [e2, int_beq]
          · simp [e2]
        · by_cases e3 : a < i
          · simp [e, e3, show a < i + 1 by omega]
          · simp [e, e3, show ¬ a < i + 1 by omega]
    · refine W.exit ?_
      simp only [go_sem]
      have hi : i = w.length := by simp at hc; omega
      subst hi
      refine W.rseq (k := 2) rfl fun K hK => ?_
      simp only [go_sem, i6]
      refine hK _ _ _ ?_
      clear hK K
      refine W.ret ?_
      simp only [go_sem]
      exact ⟨mid 0, _, _, leaf 0, rfl, i8.congr fun a b ha hb => by
        rw [i9]
        by_cases h : a < w.length
        · simp [h]
        · simp [h, tokF, List.getElem?_eq_none (show w.length ≤ a by omega)]⟩
  obtain ⟨r, h', n', hb, b, lo, hi, leaf, rfl, ht⟩ := fin
  exact ⟨_, h', n', hb, 7, fun fr => ht.frz⟩

end Go.Av

