/-
  What comes of grammars, by definition: tables that say nothing. Conditions: none.
-/
import Derived.Test.YtiiogleijmcccaaS1
namespace Go.Av
open Go.Proofs
set_option maxRecDepth 100000
set_option linter.unusedSimpArgs false
set_option linter.unusedVariables false

/-- Rows being built: a of them, in blocks from c on, below n. -/
def Part (h : Heap) (c n : Nat) (v : AV) (leaf : Nat → Nat) (a N : Nat) : Prop :=
  (a = 0 ∧ v = .nils) ∨ ∃ b, v = .sl b 0 a 1 ∧ T2 h c n b leaf a N fun _ _ => false

/-- Tables being built. -/
def Parts (h : Heap) (c n : Nat) (v : AV) (cut mid : Nat → Nat) (leaf : Nat → Nat → Nat) (i N : Nat) : Prop :=
  c ≤ cut 0 ∧ (∀ j, cut j ≤ cut (j + 1)) ∧ cut i ≤ n ∧ (∀ j, j < i → T2 h (cut j) (cut (j + 1)) (mid j) (leaf j) N N fun _ _ => false) ∧
  ((i = 0 ∧ v = .nils) ∨ ∃ top, v = .sl top 0 i 1 ∧ cut i ≤ top ∧ top < n ∧ h top = some (.cells (slL N mid i)))

theorem range_snoc {α : Type} {f : Nat → α} {a : Nat} : (List.range a).map f ++ [f a] = (List.range (a + 1)).map f := by rw [List.range_succ, List.map_append]; rfl

theorem range_map_congr {α : Type} {f g : Nat → α} {a : Nat} (h : ∀ j, j < a → f j = g j) : (List.range a).map f = (List.range a).map g :=
  List.map_congr_left fun j hj => h j (List.mem_range.1 hj)

theorem T2.wide {h : Heap} {lo hi lo' hi' b : Nat} {leaf : Nat → Nat} {m k : Nat} {f : Nat → Nat → Bool} (t : T2 h lo hi b leaf m k f) (h1 : lo' ≤ lo) (h2 : hi ≤ hi') : T2 h lo' hi' b leaf m k f :=
  ⟨Nat.le_trans h1 t.lob, Nat.lt_of_lt_of_le t.hib h2, t.top, fun i hi => ⟨Nat.le_trans h1 (t.at' i hi).1, Nat.lt_of_lt_of_le (t.at' i hi).2.1 h2, (t.at' i hi).2.2⟩, t.row, t.inj⟩

theorem f89 (M Z : Nat) (hM : M < 2 ^ 40) (hM0 : 0 < M) (hZ : Z < 2 ^ 40) (hs : Heap) (ns : Nat) : FH pg Tq 89 [.int .i64 M, .int .i64 Z] hs ns fun r h' n' =>
    ∃ top cut mid leaf, r = .sl top 0 M 1 ∧ ns ≤ n' ∧ T3 h' ns n' top cut mid leaf M (Z + 1) (Z + 1) (fun _ _ _ => false) ∧ ∀ b, b < ns → h' b = hs b := by
  generalize hN : Z + 1 = N
  have hw : IntKind.wrap .i64 ((Z : Int) + 1) = (Z : Int) + 1 := wrap64 (by omega) (by omega)
  have hn : ((Z : Int) + 1).toNat = N := by omega
  refine FH.of (N := 32) (rs := #[.tmp 4]) Try.func89 rfl rfl (of_decide_eq_true rfl) rfl (by decide) ?_
  refine W.rseq (k := 1) rfl fun K hK => ?_
  simp only [go_sem]
  refine hK _ _ _ ?_
  clear hK K
  refine W.rseq (k := 2) rfl fun K hK => ?_
  simp only [go_sem]
  refine hK _ _ _ ?_
  clear hK K
  refine W.seq ?_
  refine W.rseq (k := 1) rfl fun K hK => ?_
  simp only [go_sem]
  refine hK _ _ _ ?_
  clear hK K
  refine W.block (W.while (fun m t h n => ∃ (i : Nat) (cut mid : Nat → Nat) (leaf : Nat → Nat → Nat), m = M - i ∧ i ≤ M ∧ ns ≤ n ∧ t 0 = .int .i64 M ∧ t 1 = .int .i64 Z ∧ t 6 = .int .i64 i ∧ Parts h ns n (t 5) cut mid leaf i N ∧ ∀ b, b < ns → h b = hs b) M
    ⟨0, fun _ => ns, fun _ => 0, fun _ _ => 0, by simp, by simp, by omega, rfl, rfl, rfl, ⟨by simp, by simp, show ns ≤ _ by omega, fun j hj => by omega, .inl ⟨rfl, rfl⟩⟩, fun b hb => by simp only [go_sem]⟩ fun m t h n ⟨i, cut, mid, leaf, i1, i2, i3, i4, i5, i6, i7, i8⟩ => ?_)
  refine W.seq ?_
  refine W.rseq (k := 3) rfl fun K hK => ?_
  simp only [go_sem, i4, i6]
  refine hK _ _ _ ?_
  clear hK K
  refine W.cond rfl (fun hc => ?_) fun hc => ?_
  · refine W.skip ?_
    simp only [go_sem]
    have hi : i < M := by simpa using hc
    refine W.seq (W.block ?_)
    refine W.rseq (k := 2) rfl fun K hK => ?_
    simp only [go_sem]
    refine hK _ _ _ ?_
    clear hK K
    refine W.seq ?_
    refine W.rseq (k := 1) rfl fun K hK => ?_
    simp only [go_sem]
    refine hK _ _ _ ?_
    clear hK K
    obtain ⟨p1, p2, p3, p4, p5⟩ := i7
    refine W.block (W.while (fun m t' h' n' => ∃ (a : Nat) (lf : Nat → Nat), m = N - a ∧ a ≤ N ∧ n ≤ n' ∧ t' 0 = .int .i64 M ∧ t' 1 = .int .i64 Z ∧ t' 6 = .int .i64 i ∧ t' 5 = t 5 ∧ t' 8 = .int .i64 a ∧ Part h' n n' (t' 7) lf a N ∧ ∀ b, b < n → h' b = h b) N
      ⟨0, fun _ => 0, by simp, by simp, by omega, i4, i5, i6, rfl, rfl, .inl ⟨rfl, rfl⟩, fun b hb => by simp only [go_sem]⟩ fun m t' h' n' ⟨a, lf, j1, j2, j3, j4, j5, j6, j7, j8, j9, j10⟩ => ?_)
    refine W.seq ?_
    refine W.rseq (k := 3) rfl fun K hK => ?_
    simp only [go_sem, j5, j8]
    refine hK _ _ _ ?_
    clear hK K
    refine W.cond rfl (fun hc2 => ?_) fun hc2 => ?_
    · refine W.skip ?_
      simp only [go_sem]
      have ha : a < N := by simp at hc2; omega
      refine W.seq (W.block ?_)
      rcases j9 with ⟨rfl, e7⟩ | ⟨b, e7, tb⟩
      · refine W.region (k := 7) rfl ?_
        simp only [go_sem, e7, j5, hw, hn, e1_false, show (0 : Int) ≤ (Z : Int) + 1 by omega, show ((Z : Int) + 1) * 1 ≤ 140737488355328 by omega, show (0 : Nat) < 1 by omega, show (0 : Nat) < 24 by omega]
        refine W.region (k := 3) rfl ?_
        simp only [go_sem, j8]
        refine ⟨N - 1, by omega, 1, fun _ => n' + 6, rfl, by omega, by omega, j4, j5, j6, j7, ?_, ?_, ?_⟩
        · rw [wrap64 (by omega) (by omega)]; rfl
        · refine .inr ⟨n' + 8, by simp only [go_sem], by omega, by omega, by simp only [go_sem]; rfl, fun i hi => ⟨by omega, by omega, by omega⟩, fun i hi => ?_, fun i j hi hj _ => by omega⟩
          unfold T1
          simp only [go_sem]
        · intro x hx
          simp only [go_sem, show ∀ k, ¬ (x = n' + k) from fun k => by omega]
          exact j10 x hx
      · refine W.region (k := 7) rfl ?_
        simp only [go_sem, e7, j5, hw, hn, e1_false, tb.top, slL_len, show (0 : Int) ≤ (Z : Int) + 1 by omega, show ((Z : Int) + 1) * 1 ≤ 140737488355328 by omega, show (0 : Nat) < 1 by omega, show (0 : Nat) < 24 by omega, show ¬ (b = n' + 6) by have := tb.hib; omega, show ¬ (b = n' + 7) by have := tb.hib; omega, show (a + 1) * 24 ≤ 140737488355328 by omega, show ¬ (a + 1 ≤ a) by omega]
        refine W.region (k := 3) rfl ?_
        simp only [go_sem, j8]
        have hb1 := tb.lob
        have hb2 := tb.hib
        refine ⟨N - (a + 1), by omega, a + 1, fun j => if j = a then n' + 6 else lf j, rfl, by omega, by omega, j4, j5, j6, j7, ?_, ?_, ?_⟩
        · rw [wrap64 (by omega) (by omega)]; rfl
        · refine .inr ⟨n' + 8, by simp only [go_sem], by omega, by omega, ?_, fun i hi => ?_, fun i hi => ?_, fun i j hi hj e => ?_⟩
          · rw [← slL_snoc]; simp [upd]
          · by_cases e : i = a
            · simp only [e, if_true]; exact ⟨by omega, by omega, by omega⟩
            · have := tb.at' i (by omega)
              simp only [e, if_false]; exact ⟨by omega, by omega, by omega⟩
          · unfold T1
            by_cases e : i = a
            · simp only [go_sem, e, show ∀ k, ¬ (n' + k = b) from fun k => by omega]
            · have := tb.at' i (by omega)
              have := tb.row i (by omega)
              unfold T1 at this
              simp only [go_sem, e, show ∀ k, ¬ (lf i = n' + k) from fun k => by omega, show ¬ lf i = b by omega, this]
          · have h1 := fun h => tb.at' i h
            have h2 := fun h => tb.at' j h
            by_cases e1 : i = a <;> by_cases e2 : j = a <;> simp only [e1, e2, if_true, if_false] at e ⊢
            · have := h2 (by omega); omega
            · have := h1 (by omega); omega
            · exact tb.inj i j (by omega) (by omega) e
        · intro x hx
          simp only [go_sem, show ∀ k, ¬ (x = n' + k) from fun k => by omega, show ¬ x = b by omega]
          exact j10 x hx
    · refine W.exit ?_
      simp only [go_sem]
      have ha : a = N := by simp at hc2; omega
      subst ha
      rcases j9 with ⟨e0, _⟩ | ⟨b, e7, tb⟩
      · omega
      have hb1 := tb.lob
      have hb2 := tb.hib
      have fr : ∀ j, j < i → T2 h' (cut j) (cut (j + 1)) (mid j) (leaf j) a a fun _ _ => false := fun j hj => (p4 j hj).frame fun x h1 h2 => j10 x (by have : cut (j + 1) ≤ cut i := mono_le p2 (by omega); omega)
      have old : ∀ (h'' : Heap) (bb n2 : Nat), n' ≤ bb → bb < n2 → (∀ x, x < n' → (∀ top, t 5 = .sl top 0 i 1 → x ≠ top) → h'' x = h' x) → h'' bb = some (.cells (slL a (fun j => if j = i then b else mid j) (i + 1))) →
          Parts h'' ns n2 (.sl bb 0 (i + 1) 1) (fun j => if j ≤ i then cut j else n') (fun j => if j = i then b else mid j) (fun j => if j = i then lf else leaf j) (i + 1) a := by
        intro h'' bb n2 q1 q2 q3 q4
        have hne : ∀ top, t 5 = .sl top 0 i 1 → (cut i ≤ top ∧ top < n) := by
          intro top e
          rcases p5 with ⟨_, e'⟩ | ⟨top', e', w1, w2, _⟩
          · rw [e'] at e; cases e
          · rw [e'] at e; cases e; exact ⟨w1, w2⟩
        refine ⟨by simpa using p1, fun j => ?_, by simp only [show ¬ i + 1 ≤ i by omega, if_false]; omega, fun j hj => ?_, .inr ⟨bb, rfl, by simp only [show ¬ i + 1 ≤ i by omega, if_false]; omega, q2, q4⟩⟩
        · by_cases e1 : j + 1 ≤ i
          · simp only [show j ≤ i by omega, e1, if_true]; exact p2 j
          · by_cases e2 : j ≤ i
            · have : j = i := by omega
              subst this
              simp only [Nat.le_refl, if_true, show ¬ j + 1 ≤ j by omega, if_false]; omega
            · simp [e1, e2]
        · by_cases e1 : j = i
          · subst e1
            simp only [Nat.le_refl, if_true, show ¬ j + 1 ≤ j by omega, if_false]
            refine T2.wide (tb.frame fun x h1 h2 => q3 x h2 fun top e => ?_) (by omega) (Nat.le_refl _)
            have := hne top e
            omega
          · simp only [show j ≤ i by omega, show j + 1 ≤ i by omega, e1, if_true, if_false]
            refine (fr j (by omega)).frame fun x h1 h2 => q3 x (by have : cut (j + 1) ≤ cut i := mono_le p2 (by omega); omega) fun top e => ?_
            have := hne top e
            have : cut (j + 1) ≤ cut i := mono_le p2 (by omega)
            omega
      rcases p5 with ⟨rfl, e5⟩ | ⟨top, e5, w1, w2, w3⟩
      · refine W.region (k := 5) rfl ?_
        simp only [go_sem, j7, e5, e7, show (0 : Nat) < 24 by omega]
        refine W.region (k := 3) rfl ?_
        simp only [go_sem, j6]
        refine ⟨M - 1, by omega, 1, _, _, _, rfl, by omega, by omega, j4, j5, ?_, old _ (n' + 6) _ (by omega) (by omega) (fun x hx _ => ?_) ?_, fun x hx => ?_⟩
        · rw [wrap64 (by omega) (by omega)]; rfl
        · simp only [go_sem, show ∀ k, ¬ (x = n' + k) from fun k => by omega]
        · simp only [go_sem]; rfl
        · simp only [go_sem, show ∀ k, ¬ (x = n' + k) from fun k => by omega]
          rw [j10 x (by omega), i8 x hx]
      · have ht : h' top = some (.cells (slL a mid i)) := (j10 top w2).trans w3
        refine W.region (k := 5) rfl ?_
        simp only [go_sem, j7, e5, e7, ht, slL_len, show (0 : Nat) < 24 by omega, show (i + 1) * 24 ≤ 140737488355328 by omega, show ¬ (i + 1 ≤ i) by omega, show ∀ k, ¬ (top = n' + k) from fun k => by omega]
        refine W.region (k := 3) rfl ?_
        simp only [go_sem, j6]
        refine ⟨M - (i + 1), by omega, i + 1, _, _, _, rfl, by omega, by omega, j4, j5, ?_, old _ (n' + 6) _ (by omega) (by omega) (fun x hx hne => ?_) ?_, fun x hx => ?_⟩
        · rw [wrap64 (by omega) (by omega)]; rfl
        · simp only [go_sem, show ∀ k, ¬ (x = n' + k) from fun k => by omega, hne top e5]
        · rw [← slL_snoc]; simp [upd]
        · have : ns ≤ cut 0 := p1
          have : cut 0 ≤ cut i := mono_le p2 (by omega)
          simp only [go_sem, show ∀ k, ¬ (x = n' + k) from fun k => by omega, show ¬ x = top by omega]
          rw [j10 x (by omega), i8 x hx]
  · refine W.exit ?_
    simp only [go_sem]
    have hi : i = M := by simp at hc; omega
    subst hi
    obtain ⟨p1, p2, p3, p4, p5⟩ := i7
    rcases p5 with ⟨rfl, e5⟩ | ⟨top, e5, w1, w2, w3⟩
    · omega
    refine W.rseq (k := 2) rfl fun K hK => ?_
    simp only [go_sem, e5]
    refine hK _ _ _ ?_
    clear hK K
    refine W.ret ?_
    simp only [go_sem]
    exact ⟨top, cut, mid, leaf, rfl, by omega, ⟨p1, p2, by omega, w1, w3, p4⟩, i8⟩

end Go.Av

