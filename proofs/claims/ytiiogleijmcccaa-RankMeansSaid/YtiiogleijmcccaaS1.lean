/-
  What comes of grammars, by definition: rows, tokens, empty tables. Conditions: none.
-/
import Derived.Test.YtiiogleijmcccaaS0
namespace Go.Av
open Go.Proofs
set_option maxRecDepth 100000
set_option linter.unusedSimpArgs false
set_option linter.unusedVariables false

/-- What the rows from below a lead to. -/
def nxA (at' : Nat → Bool) (f : Nat → Nat → Bool) (a : Nat) (x : Nat) : Bool := (List.range a).any fun a' => decide (a' ≤ x) && (at' a' && f a' x)

/-- .. and from a itself, to places below bb. -/
def nxB (at' : Nat → Bool) (f : Nat → Nat → Bool) (a bb : Nat) (x : Nat) : Bool := nxA at' f a x || (at' a && (decide (a ≤ x) && (decide (x < bb) && f a x)))

theorem nxB_start {at' : Nat → Bool} {f : Nat → Nat → Bool} {a : Nat} : nxB at' f a a = nxA at' f a := by
  funext x
  unfold nxB
  by_cases h : a ≤ x
  · simp [show ¬ x < a by omega]
  · simp [h]

theorem nxB_hit {at' : Nat → Bool} {f : Nat → Nat → Bool} {a bb : Nat} (h1 : at' a = true) (h2 : f a bb = true) (h3 : a ≤ bb) : (fun x => if x = bb then true else nxB at' f a bb x) = nxB at' f a (bb + 1) := by
  funext x
  unfold nxB
  by_cases h : x = bb
  · subst h; simp [h1, h2, h3]
  · simp [h, show (x < bb + 1) = (x < bb) by apply propext; omega]

theorem nxB_miss {at' : Nat → Bool} {f : Nat → Nat → Bool} {a bb : Nat} (h2 : f a bb = false) : nxB at' f a bb = nxB at' f a (bb + 1) := by
  funext x
  unfold nxB
  by_cases h : x = bb
  · subst h; simp [h2]
  · simp [show (x < bb + 1) = (x < bb) by apply propext; omega]

theorem nxB_end {at' : Nat → Bool} {f : Nat → Nat → Bool} {a bb x : Nat} (h : at' a = false ∨ x < bb) : nxB at' f a bb x = nxA at' f (a + 1) x := by
  unfold nxB nxA
  rw [List.range_succ, List.any_append]
  congr 1
  rcases h with h | h
  · simp [h]
  · simp [h, Bool.and_left_comm]

theorem nxA_end {at' : Nat → Bool} {f : Nat → Nat → Bool} {Z x : Nat} (h : x < Z) : nxA at' f Z x = stepRow at' f x := by
  unfold nxA stepRow
  rw [Bool.eq_iff_iff]
  simp only [List.any_eq_true, List.mem_range, Bool.and_eq_true, decide_eq_true_eq]
  constructor
  · rintro ⟨a, h1, h2, h3⟩; exact ⟨a, by omega, h3⟩
  · rintro ⟨a, h1, h2⟩; exact ⟨a, by omega, by omega, h2⟩

theorem f91 (l : List (Nat → Nat → Bool)) (from' Z : Nat) (hl : l.length < 2 ^ 60) (hZ : Z < 2 ^ 40) (hf : from' ≤ Z) : PF pg Tq 91 [.ro (l.map fun f => [.ro (e2 (Z + 1) (Z + 1) f)]), .int .i64 from', .int .i64 Z] (.ro (e1 (Z + 1) (rowF l from'))) := by
  generalize hN : Z + 1 = N
  have fin : FH pg Tq 91 [.ro (l.map fun f => [.ro (e2 N N f)]), .int .i64 from', .int .i64 Z] h0 0 fun r h _ => ∃ b, r = .sl b 0 N 1 ∧ T1 h b N (rowF l from') := by
    have hw : IntKind.wrap .i64 ((Z : Int) + 1) = (Z : Int) + 1 := wrap64 (by omega) (by omega)
    have hn : ((Z : Int) + 1).toNat = N := by omega
    refine FH.of (N := 59) (rs := #[.tmp 6]) Try.func91 rfl rfl (of_decide_eq_true rfl) rfl (by decide) ?_
    refine W.rseq (k := 1) rfl fun K hK => ?_
    simp only [go_sem]
    refine hK _ _ _ ?_
    clear hK K
    refine W.rseq (k := 4) rfl fun K hK => ?_
    simp only [go_sem, e1_false, hw, hn, show (0 : Int) ≤ (Z : Int) + 1 by omega, show ((Z : Int) + 1) * 1 ≤ 140737488355328 by omega, show (0 : Nat) < 1 by omega]
    refine hK _ _ _ ?_
    clear hK K
    refine W.rseq (k := 4) rfl fun K hK => ?_
    simp only [go_sem, show (from' : Int) < (N : Int) by omega, e1_false, show (e1 N fun _ => false)[from']? = some [.bool false] from e1_get (by omega)]
    refine hK _ _ _ ?_
    clear hK K
    refine W.seq ?_
    refine W.rseq (k := 1) rfl fun K hK => ?_
    simp only [go_sem]
    refine hK _ _ _ ?_
    clear hK K
    refine W.block (W.while (fun m t h n => ∃ (i b : Nat) (at' : Nat → Bool), m = l.length - i ∧ i ≤ l.length ∧ b < n ∧ t 0 = .ro (l.map fun f => [.ro (e2 N N f)]) ∧ t 2 = .int .i64 Z ∧ t 7 = .sl b 0 N 1 ∧ t 8 = .int .i64 i ∧
        h b = some (.cells (e1 N at')) ∧ (l.drop i).foldl stepRow at' = rowF l from') l.length
      ⟨0, 3, fun b => decide (b = from'), by simp, by simp, by omega, rfl, rfl, rfl, rfl, ?_, rfl⟩ fun m t h n ⟨i, b, at', i1, i2, i3, i4, i5, i6, i7, i8, i9⟩ => ?_)
    · simp only [go_sem, e1_set]
      exact congrArg (fun x => some (AO.cells x)) (e1_congr fun j _ => by by_cases e : j = from' <;> simp [e])
    refine W.seq ?_
    refine W.rseq (k := 4) rfl fun K hK => ?_
    simp only [go_sem, i4, i7]
    refine hK _ _ _ ?_
    clear hK K
    refine W.cond rfl (fun hc => ?_) fun hc => ?_
    · refine W.skip ?_
      simp only [go_sem]
      have hi : i < l.length := by simp at hc; omega
      obtain ⟨f, hfi⟩ := get_some hi
      have hd : l.drop i = f :: l.drop (i + 1) := by
        rw [List.drop_eq_getElem_cons hi]
        congr 1
        exact (List.getElem_eq_iff hi).2 hfi
      rw [hd, List.foldl_cons] at i9
      refine W.seq (W.block ?_)
      refine W.rseq (k := 4) rfl fun K hK => ?_
      simp only [go_sem, e1_false, i5, hw, hn, show (0 : Int) ≤ (Z : Int) + 1 by omega, show ((Z : Int) + 1) * 1 ≤ 140737488355328 by omega, show (0 : Nat) < 1 by omega]
      refine hK _ _ _ ?_
      clear hK K
      obtain ⟨c, hc⟩ : ∃ c, c = n + 6 := ⟨_, rfl⟩
      refine W.seq ?_
      refine W.rseq (k := 1) rfl fun K hK => ?_
      simp only [go_sem]
      refine hK _ _ _ ?_
      clear hK K
      refine W.block (W.while (fun m t h n => ∃ a : Nat, m = Z + 1 - a ∧ a ≤ Z + 1 ∧ b < n ∧ c < n ∧ b ≠ c ∧ t 0 = .ro (l.map fun f => [.ro (e2 N N f)]) ∧ t 2 = .int .i64 Z ∧ t 7 = .sl b 0 N 1 ∧ t 8 = .int .i64 i ∧ t 9 = .sl c 0 N 1 ∧ t 10 = .int .i64 a ∧
          h b = some (.cells (e1 N at')) ∧ h c = some (.cells (e1 N (nxA at' f a)))) (Z + 1)
        ⟨0, by simp, by simp, by omega, by omega, by omega, i4, i5, i6, i7, by simp only [go_sem, hc], rfl, ?_, ?_⟩ fun m t h n ⟨a, j1, j2, j3, j4, j5, j6, j7, j8, j9, j10, j11, j12, j13⟩ => ?_)
      · simp only [go_sem, show ¬ b = n + 6 by omega, i8]
      · simp only [go_sem, hc]
        congr 2
      refine W.seq ?_
      refine W.rseq (k := 3) rfl fun K hK => ?_
      simp only [go_sem, j7, j11]
      refine hK _ _ _ ?_
      clear hK K
      refine W.cond rfl (fun hc2 => ?_) fun hc2 => ?_
      · refine W.skip ?_
        simp only [go_sem]
        have ha : a ≤ Z := by simp at hc2; omega
        refine W.seq (W.block ?_)
        refine W.rseq (k := 2) rfl fun K hK => ?_
        simp only [go_sem, j11]
        refine hK _ _ _ ?_
        clear hK K
        refine W.block (W.while (fun m t h n => ∃ bb : Nat, m = Z + 1 - bb ∧ a ≤ bb ∧ bb ≤ Z + 1 ∧ b < n ∧ c < n ∧ t 0 = .ro (l.map fun f => [.ro (e2 N N f)]) ∧ t 2 = .int .i64 Z ∧ t 7 = .sl b 0 N 1 ∧ t 8 = .int .i64 i ∧ t 9 = .sl c 0 N 1 ∧ t 10 = .int .i64 a ∧ t 11 = .int .i64 bb ∧
            h b = some (.cells (e1 N at')) ∧ h c = some (.cells (e1 N (nxB at' f a bb)))) (Z + 1 - a)
          ⟨a, rfl, by omega, by omega, by omega, by omega, j6, j7, j8, j9, j10, j11, rfl, j12, ?_⟩ fun m t h n ⟨bb, k1, k2, k3, k4, k5, k6, k7, k8, k9, k10, k11, k12, k13, k14⟩ => ?_)
        · rw [j13, nxB_start]
        refine W.seq ?_
        refine W.rseq (k := 9) rfl fun K hK => ?_
        by_cases c1 : bb ≤ Z
        · have c1' : decide ((bb : Int) ≤ (Z : Int)) = true := by simp [c1]
          simp only [go_sem, k7, k8, k11, k12, k13, c1', show (a : Int) < (N : Int) by omega, show (e1 N at')[a]? = some [.bool (at' a)] from e1_get (by omega)]
          cases hat : at' a
          · refine hK _ _ _ ?_
            clear hK K
            refine W.condF (by simp only [go_sem]) ?_
            refine W.exit ?_
            simp only [go_sem]
            refine W.region (k := 3) rfl ?_
            simp only [go_sem, k11]
            refine ⟨Z + 1 - (a + 1), by omega, a + 1, rfl, by omega, by omega, by omega, j5, k6, k7, k8, k9, k10, ?_, k13, ?_⟩
            · rw [wrap64 (by omega) (by omega)]; rfl
            · rw [k14, e1_congr fun x hx => nxB_end (.inl hat)]
          · refine hK _ _ _ ?_
            clear hK K
            refine W.condT (by simp only [go_sem]) ?_
            refine W.skip ?_
            simp only [go_sem]
            refine W.seq (W.block ?_)
            refine W.rseq (k := 10) rfl fun K hK => ?_
            simp only [go_sem, k6, k9, k11, k12, hfi, show (e2 N N f)[a]? = some [.ro (e1 N (f a))] from e2_get (by omega), show (e1 N (f a))[bb]? = some [.bool (f a bb)] from e1_get (by omega)]
            refine hK _ _ _ ?_
            clear hK K
            cases hfb : f a bb
            · refine W.condF (by simp only [go_sem]) ?_
              refine W.skip ?_
              simp only [go_sem]
              refine W.region (k := 3) rfl ?_
              simp only [go_sem, k12]
              refine ⟨Z + 1 - (bb + 1), by omega, bb + 1, rfl, by omega, by omega, by omega, by omega, k6, k7, k8, k9, k10, k11, ?_, k13, ?_⟩
              · rw [wrap64 (by omega) (by omega)]; rfl
              · rw [k14, nxB_miss hfb]
            · refine W.condT (by simp only [go_sem]) ?_
              refine W.region (k := 4) rfl ?_
              simp only [go_sem, k10, k12, k14, show (bb : Int) < (N : Int) by omega, show (e1 N (nxB at' f a bb))[bb]? = some [.bool (nxB at' f a bb bb)] from e1_get (by omega)]
              refine W.region (k := 3) rfl ?_
              simp only [go_sem, k12]
              refine ⟨Z + 1 - (bb + 1), by omega, bb + 1, rfl, by omega, by omega, by omega, by omega, k6, k7, k8, k9, k10, k11, ?_, ?_, ?_⟩
              · rw [wrap64 (by omega) (by omega)]; rfl
              · simp only [go_sem, show ¬ b = c from j5, k13]
              · simp only [go_sem, e1_set, nxB_hit hat hfb k2]
        · have c1' : decide ((bb : Int) ≤ (Z : Int)) = false := by simp; omega
          simp only [go_sem, k7, k12, c1']
          refine hK _ _ _ ?_
          clear hK K
          refine W.condF (by simp only [go_sem]) ?_
          refine W.exit ?_
          simp only [go_sem]
          refine W.region (k := 3) rfl ?_
          simp only [go_sem, k11]
          refine ⟨Z + 1 - (a + 1), by omega, a + 1, rfl, by omega, by omega, by omega, j5, k6, k7, k8, k9, k10, ?_, k13, ?_⟩
          · rw [wrap64 (by omega) (by omega)]; rfl
          · rw [k14, e1_congr fun x hx => nxB_end (.inr (show x < bb by omega))]
      · refine W.exit ?_
        simp only [go_sem]
        have ha : a = Z + 1 := by simp at hc2; omega
        subst ha
        refine W.region (k := 2) rfl ?_
        simp only [go_sem, j10]
        refine W.region (k := 3) rfl ?_
        simp only [go_sem, j9]
        refine ⟨l.length - (i + 1), by omega, i + 1, c, stepRow at' f, rfl, by omega, by omega, j6, j7, ?_, ?_, ?_, i9⟩
        · rfl
        · rw [wrap64 (by omega) (by omega)]; rfl
        · rw [j13, e1_congr (f := nxA at' f (Z + 1)) (g := stepRow at' f) fun x hx => nxA_end (by omega)]
    · refine W.exit ?_
      simp only [go_sem]
      have hi : i = l.length := by simp at hc; omega
      subst hi
      rw [List.drop_length, List.foldl_nil] at i9
      refine W.rseq (k := 2) rfl fun K hK => ?_
      simp only [go_sem, i6]
      refine hK _ _ _ ?_
      clear hK K
      refine W.ret ?_
      simp only [go_sem]
      exact ⟨b, rfl, by rw [← i9]; exact i8⟩
  obtain ⟨r, h', n', hb, b, rfl, ht⟩ := fin
  exact ⟨_, h', n', hb, 4, fun fr => ht.frz⟩

end Go.Av

