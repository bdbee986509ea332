/-
  Layer 17, the document's answer: where symbols may end, walked. Conditions: none.
-/
import Derived.Test.YtiiogleijmcccaaZC
import Derived.Test.YtiiogleijmcccaaY4
namespace Go.Av
open Go.Proofs
set_option maxRecDepth 100000
set_option linter.unusedSimpArgs false
set_option linter.unusedVariables false

/-- Symbols, or a beginning of them, come to the end, or over it. -/
def OvT (g : Gr) (w : List Int) (l : List Sy) (a : Nat) : Prop := ∃ l1 l2, l = l1 ++ l2 ∧ (Der g w l1 a w.length ∨ ∃ n l3 b, l2 = ⟨true, n⟩ :: l3 ∧ Der g w l1 a b ∧ Ovr g w n b)

theorem ovT_ok {g : Gr} {w : List Int} : ∀ {l : List Sy} {a : Nat}, OvT g w l a ↔ Ok g w True l a := by
  intro l a
  constructor
  · rintro ⟨l1, l2, rfl, h | ⟨n, l3, b, rfl, h1, h2⟩⟩
    · exact Ok.app h (Ok.end trivial l2)
    · exact Ok.app h1 (.inr (by rw [if_pos rfl]; exact .inr ⟨trivial, h2⟩))
  · induction l generalizing a with
    | nil =>
      intro h
      have h : a = w.length := h
      exact ⟨[], [], rfl, .inl (by rw [h]; exact .nil (Nat.le_refl _))⟩
    | cons s l ih =>
      rintro (⟨_, h⟩ | h)
      · exact ⟨[], s :: l, rfl, .inl (by rw [h]; exact .nil (Nat.le_refl _))⟩
      · cases hn : s.non
        · rw [hn, if_neg Bool.false_ne_true] at h
          rw [sy_term hn]
          obtain ⟨l1, l2, rfl, q⟩ := ih h.2
          rcases q with q | ⟨n, l3, b, rfl, q1, q2⟩
          · exact ⟨⟨false, s.n⟩ :: l1, l2, rfl, .inl (.term h.1 q)⟩
          · exact ⟨⟨false, s.n⟩ :: l1, _, rfl, .inr ⟨n, l3, b, rfl, .term h.1 q1, q2⟩⟩
        · rw [hn, if_pos rfl] at h
          rcases h with ⟨b, h1, h2⟩ | ⟨_, h⟩
          · obtain ⟨l1, l2, rfl, q⟩ := ih h2
            rcases q with q | ⟨n, l3, b', rfl, q1, q2⟩
            · exact ⟨s :: l1, l2, rfl, .inl (h1.append q)⟩
            · exact ⟨s :: l1, _, rfl, .inr ⟨n, l3, b', rfl, h1.append q1, q2⟩⟩
          · exact ⟨[], s :: l, rfl, .inr ⟨s.n, l, a, by rw [← sy_non hn], .nil h.le, h⟩⟩

theorem ovT_snoc {g : Gr} {w : List Int} {l : List Sy} {s : Sy} {a : Nat} : OvT g w (l ++ [s]) a ↔ (OvT g w l a ∨ s.non = true ∧ ∃ b, Der g w l a b ∧ Ovr g w s.n b) ∨ Der g w (l ++ [s]) a w.length := by
  constructor
  · rintro ⟨l1, l2, e, q⟩
    rcases List.eq_nil_or_concat l2 with h2 | ⟨m, x, h2⟩
    · subst h2
      rw [List.append_nil] at e
      subst e
      rcases q with q | ⟨n, l3, b, q1, _⟩
      · exact .inr q
      · cases q1
    · rw [List.concat_eq_append] at h2
      subst h2
      rw [← List.append_assoc] at e
      obtain ⟨e1, e2⟩ := List.append_inj' e rfl
      injection e2 with e2
      subst e1 e2
      rcases q with q | ⟨n, l3, b, q1, q2, q3⟩
      · exact .inl (.inl ⟨l1, m, rfl, .inl q⟩)
      · cases m with
        | nil =>
          injection q1 with q1 _
          subst q1
          rw [List.append_nil]
          exact .inl (.inr ⟨rfl, b, q2, q3⟩)
        | cons y m =>
          injection q1 with q1 _
          subst q1
          exact .inl (.inl ⟨l1, _, rfl, .inr ⟨n, m, b, rfl, q2, q3⟩⟩)
  · rintro ((⟨l1, l2, rfl, q⟩ | ⟨hn, b, q1, q2⟩) | q)
    · refine ⟨l1, l2 ++ [s], by rw [List.append_assoc], ?_⟩
      rcases q with q | ⟨n, l3, b, rfl, q1, q2⟩
      · exact .inl q
      · exact .inr ⟨n, l3 ++ [s], b, rfl, q1, q2⟩
    · exact ⟨l, [s], rfl, .inr ⟨s.n, [], b, by rw [← sy_non hn], q1, q2⟩⟩
    · exact ⟨l ++ [s], [], by rw [List.append_nil], .inl q⟩

theorem der_snoc {g : Gr} {w : List Int} {l : List Sy} {s : Sy} {a c : Nat} : Der g w (l ++ [s]) a c ↔ ∃ b, Der g w l a b ∧ Der g w [s] b c :=
  ⟨fun h => h.split l rfl, fun ⟨b, h1, h2⟩ => h1.append h2⟩

theorem der_t {g : Gr} {w : List Int} {s : Sy} (hn : s.non = false) {a c : Nat} : Der g w [s] a c ↔ w[a]? = some s.n ∧ c = a + 1 := by
  rw [sy_term hn]
  constructor
  · intro h
    generalize he : ([⟨false, s.n⟩] : List Sy) = l at h
    cases h with
    | nil h => cases he
    | term h hl =>
      injection he with h1 h2
      injection h1 with _ h1
      subst h1 h2
      exact ⟨h, by cases hl; rfl⟩
    | non hp hrr hl => simp at he
  · rintro ⟨h, rfl⟩
    have := (List.getElem?_eq_some_iff.1 h).1
    exact .term h (.nil (by omega))

set_option maxHeartbeats 16000000 in
theorem f111 (g : Gr) (w : List Int) (hw : w.length < 2 ^ 30) (M : Nat) (hM : M < 2 ^ 30) (l : List Sy) (hl : l.length < 2 ^ 40) (hs : ∀ s ∈ l, s.non = true → 0 ≤ s.n ∧ s.n < M) (hgM : (M : Int) = g.nons) (hov : ∀ n a : Nat, n < M → (spanF (wildG g) w (M + n) a w.length = true ↔ Ovr g w (n : Int) a)) (fr : Nat) (hf : fr ≤ w.length) (N : Nat) (hN : N = w.length + 1) :
    ∃ (F : Nat → Bool) (o : Bool), PF pg Tq 111 [.ro (l.map eSy), .ro (w.map eIn), .int .i64 (fr : Nat), .ro (e3 M N N (spanF g w)), .ro (e3 (2 * M) N N (spanF (wildG g) w)), .int .i64 (M : Nat)] (.tup [.ro (e1 N F), .bool o]) ∧ (F w.length = true ↔ Der g w l fr w.length) ∧ (o = true ↔ OvT g w l fr) := by
  have fin : FH pg Tq 111 [.ro (l.map eSy), .ro (w.map eIn), .int .i64 (fr : Nat), .ro (e3 M N N (spanF g w)), .ro (e3 (2 * M) N N (spanF (wildG g) w)), .int .i64 (M : Nat)] h0 0 fun r h _ => ∃ (F : Nat → Bool) (o : Bool) (b : Nat), r = .tup [.sl b 0 N 1, .bool o] ∧ h b = some (.cells (e1 N F)) ∧ (F w.length = true ↔ Der g w l fr w.length) ∧ (o = true ↔ OvT g w l fr) := by
    have hwl : IntKind.wrap .i64 ((w.length : Int) + 1) = (w.length : Int) + 1 := wrap64 (by omega) (by omega)
    have hn : ((w.length : Int) + 1).toNat = N := by omega
    have hnn : (0 : Int) ≤ (w.length : Int) + 1 := by omega
    have hsz : ((w.length : Int) + 1) * 1 ≤ 140737488355328 := by omega
    refine FH.of (N := 152) (rs := #[.tmp 12, .tmp 13]) Try.func111 rfl rfl (of_decide_eq_true rfl) rfl (by decide) ?_
    refine W.rseq (k := 2) rfl fun K hK => ?_
    simp only [go_sem]
    refine hK _ _ _ ?_
    clear hK K
    refine W.rseq (k := 5) rfl fun K hK => ?_
    simp only [go_sem, e1_false, List.length_map, hwl, hn, hnn, hsz, show (0 : Nat) < 1 by omega]
    refine hK _ _ _ ?_
    clear hK K
    refine W.rseq (k := 4) rfl fun K hK => ?_
    simp only [go_sem, show (fr : Int) < (N : Int) by omega, e1_false, show (e1 N fun _ => false)[fr]? = some [.bool false] from e1_get (by omega)]
    refine hK _ _ _ ?_
    clear hK K
    refine W.rseq (k := 5) rfl fun K hK => ?_
    simp only [go_sem, List.length_map]
    refine hK _ _ _ ?_
    clear hK K
    obtain ⟨b0, hb0⟩ : ∃ b0, b0 = 5 := ⟨_, rfl⟩
    refine W.seqk fun K hK => ?_
    refine W.rseq (k := 1) rfl fun K hK => ?_
    simp only [go_sem]
    refine hK _ _ _ ?_
    clear hK K
    have nx0 : ∀ (t' : Fr) (h' : Heap) (n' : Nat) (F : Nat → Bool) (o : Bool) (b : Nat), h' b = some (.cells (e1 N F)) → t' 14 = .sl b 0 N 1 → t' 15 = .bool o → (∀ x, x < N → (F x = true ↔ Der g w l fr x)) → (o = true ↔ OvT g w l fr) → K t' h' n' := by
      intro t' h' n' F o b e1' e2' e3' e4' e5'
      refine hK _ _ _ ?_
      clear hK K
      refine W.rseq (k := 4) rfl fun K hK => ?_
      simp only [go_sem, e2', e3']
      refine hK _ _ _ ?_
      clear hK K
      refine W.ret ?_
      simp only [go_sem]
      exact ⟨F, o, b, rfl, e1', e4' _ (by omega), e5'⟩
    clear hK
    refine W.block (W.while (fun m t h n => ∃ (i b : Nat) (F : Nat → Bool) (o : Bool), m = l.length - i ∧ i ≤ l.length ∧ b < n ∧ h b = some (.cells (e1 N F)) ∧ (t 0 = .ro (l.map eSy) ∧ t 1 = .ro (w.map eIn) ∧ t 3 = .ro (e3 M N N (spanF g w)) ∧ t 4 = .ro (e3 (2 * M) N N (spanF (wildG g) w)) ∧ t 5 = .int .i64 (M : Nat)) ∧ t 14 = .sl b 0 N 1 ∧ t 15 = .bool o ∧ t 16 = .int .i64 i ∧ (∀ x, x < N → (F x = true ↔ Der g w (l.take i) fr x)) ∧ (o = true ↔ OvT g w (l.take i) fr)) l.length
      ⟨0, 5, fun x => decide (x = fr), decide (fr = w.length), by simp, by simp, by omega, ?_, ⟨rfl, rfl, rfl, rfl, rfl⟩, rfl, ?_, rfl, fun x hx => ?_, ?_⟩ fun m t h n ⟨i, b, F, o, i1, i2, i3, i4, i5, i6, i7, i8, i9, i10⟩ => ?_)
    · simp only [go_sem, e1_set]
      exact congrArg (fun x => some (AO.cells x)) (e1_congr fun j _ => by by_cases e : j = fr <;> simp [e])
    · simp only [go_sem]
      exact congrArg AV.bool (decide_eq_decide.2 (by omega))
    · rw [List.take_zero, decide_eq_true_eq]
      constructor
      · rintro rfl; exact .nil hf
      · intro h; cases h; rfl
    · rw [List.take_zero, decide_eq_true_eq, ovT_ok]
      exact Iff.rfl
    have i5' := i5
    obtain ⟨a0, a1, a3, a4, a5⟩ := i5'
    refine W.seq ?_
    refine W.rseq (k := 4) rfl fun K hK => ?_
    simp only [go_sem, a0, i8, List.length_map]
    refine hK _ _ _ ?_
    clear hK K
    refine W.cond rfl (fun hc => ?_) fun hc => ?_
    · refine W.skip ?_
      simp only [go_sem]
      have hi : i < l.length := by simp at hc; omega
      obtain ⟨s, hsi⟩ := get_some hi
      have hsm := hs s (List.mem_of_getElem? hsi)
      have htk : l.take (i + 1) = l.take i ++ [s] := by rw [List.take_add_one, hsi]; rfl
      refine W.seqk fun K hK => ?_
      have nx : ∀ (t' : Fr) (h' : Heap) (n' : Nat) (b : Nat) (F : Nat → Bool) (o : Bool), b < n' → h' b = some (.cells (e1 N F)) → (t' 0 = .ro (l.map eSy) ∧ t' 1 = .ro (w.map eIn) ∧ t' 3 = .ro (e3 M N N (spanF g w)) ∧ t' 4 = .ro (e3 (2 * M) N N (spanF (wildG g) w)) ∧ t' 5 = .int .i64 (M : Nat)) → t' 14 = .sl b 0 N 1 → t' 15 = .bool o → t' 16 = .int .i64 i → (∀ x, x < N → (F x = true ↔ Der g w (l.take (i + 1)) fr x)) → (o = true ↔ OvT g w (l.take (i + 1)) fr) → K t' h' n' := by
        intro t' h' n' b F o q1 q2 q3 q4 q5 q6 q7 q8
        refine hK _ _ _ ?_
        clear hK K
        refine W.region (k := 3) rfl ?_
        simp only [go_sem, q6]
        refine ⟨l.length - (i + 1), by omega, i + 1, b, F, o, rfl, by omega, by omega, q2, q3, q4, q5, ?_, q7, q8⟩
        rw [wrap64 (by omega) (by omega)]; rfl
      clear hK nx0
      refine W.block ?_
      refine W.rseq (k := 5) rfl fun K hK => ?_
      simp only [go_sem, a1, e1_false, List.length_map, hwl, hn, hnn, hsz, show (0 : Nat) < 1 by omega]
      refine hK _ _ _ ?_
      clear hK K
      obtain ⟨c, hcc⟩ : ∃ c, c = n + 7 := ⟨_, rfl⟩
      have hbc : b ≠ c := by omega
      refine W.seqk fun K hK => ?_
      refine W.rseq (k := 1) rfl fun K hK => ?_
      simp only [go_sem]
      refine hK _ _ _ ?_
      clear hK K
      have nx1 : ∀ (t' : Fr) (h' : Heap) (n' : Nat) (G : Nat → Bool) (o1 : Bool), c < n' → h' c = some (.cells (e1 N G)) → (t' 0 = .ro (l.map eSy) ∧ t' 1 = .ro (w.map eIn) ∧ t' 3 = .ro (e3 M N N (spanF g w)) ∧ t' 4 = .ro (e3 (2 * M) N N (spanF (wildG g) w)) ∧ t' 5 = .int .i64 (M : Nat)) → t' 15 = .bool o1 → t' 16 = .int .i64 i → t' 17 = .sl c 0 N 1 → (∀ x, x < N → (G x = true ↔ ∃ a', a' < N ∧ F a' = true ∧ Der g w [s] a' x)) → (o1 = true ↔ OvT g w (l.take i) fr ∨ s.non = true ∧ ∃ a', a' < N ∧ F a' = true ∧ Ovr g w s.n a') → K t' h' n' := by
        intro t' h' n' G o1 q1 q2 q3 q4 q5 q6 q7 q8
        refine hK _ _ _ ?_
        clear hK K
        have q3' := q3
        obtain ⟨c0, c1, c3, c4, c5⟩ := q3'
        have hG : ∀ x, x < N → (G x = true ↔ Der g w (l.take (i + 1)) fr x) := fun x hx => by
          rw [q7 x hx, htk, der_snoc]
          constructor
          · rintro ⟨a', h1, h2, h3⟩
            exact ⟨a', (i9 a' h1).1 h2, h3⟩
          · rintro ⟨a', h1, h2⟩
            have := h1.le
            exact ⟨a', by omega, (i9 a' (by omega)).2 h1, h2⟩
        have hO : OvT g w (l.take (i + 1)) fr ↔ (o1 = true ∨ G w.length = true) := by
          rw [hG _ (by omega), htk, ovT_snoc, q8]
          refine or_congr (or_congr Iff.rfl (and_congr_right fun _ => ?_)) Iff.rfl
          constructor
          · rintro ⟨a', h1, h2⟩
            have := h1.le
            exact ⟨a', by omega, (i9 a' (by omega)).2 h1, h2⟩
          · rintro ⟨a', h1, h2, h3⟩
            exact ⟨a', (i9 a' h1).1 h2, h3⟩
        refine W.rseq (k := 2) rfl fun K hK => ?_
        simp only [go_sem, q6]
        refine hK _ _ _ ?_
        clear hK K
        cases o1 with
        | true =>
          refine W.region (k := 9) rfl ?_
          simp only [go_sem, q4]
          exact nx _ _ _ c G true (by omega) q2 q3 rfl rfl q5 hG (by rw [hO]; simp)
        | false =>
          refine W.region (k := 9) rfl ?_
          simp only [go_sem, q4, c1, q2, List.length_map, show (w.length : Int) < (N : Int) by omega, show (e1 N G)[w.length]? = some [.bool (G w.length)] from e1_get (by omega)]
          exact nx _ _ _ c G (G w.length) (by omega) q2 q3 rfl rfl q5 hG (by rw [hO]; simp)
      clear hK nx
      refine W.block (W.while (fun m t h1 n1 => ∃ (a : Nat) (G : Nat → Bool) (o1 : Bool), m = N - a ∧ a ≤ N ∧ c < n1 ∧ h1 b = some (.cells (e1 N F)) ∧ h1 c = some (.cells (e1 N G)) ∧ (t 0 = .ro (l.map eSy) ∧ t 1 = .ro (w.map eIn) ∧ t 3 = .ro (e3 M N N (spanF g w)) ∧ t 4 = .ro (e3 (2 * M) N N (spanF (wildG g) w)) ∧ t 5 = .int .i64 (M : Nat)) ∧ t 14 = .sl b 0 N 1 ∧ t 15 = .bool o1 ∧ t 16 = .int .i64 i ∧ t 17 = .sl c 0 N 1 ∧ t 18 = .int .i64 a ∧ (∀ x, x < N → (G x = true ↔ ∃ a', a' < a ∧ F a' = true ∧ Der g w [s] a' x)) ∧ (o1 = true ↔ OvT g w (l.take i) fr ∨ s.non = true ∧ ∃ a', a' < a ∧ F a' = true ∧ Ovr g w s.n a')) N
        ⟨0, fun _ => false, o, by simp, by omega, by omega, by simp only [go_sem, show ¬ b = n + 7 by omega, i4], by rw [hcc]; simp only [go_sem], i5, i6, i7, i8, by rw [hcc]; rfl, rfl, fun x hx => ?_, ?_⟩ fun m t h1 n1 ⟨a, G, o1, j1, j2, j3, j4, j5, j6, j7, j8, j9, j10, j11, j12, j13⟩ => ?_)
      · constructor
        · intro q; cases q
        · rintro ⟨a', q, _⟩; omega
      · rw [i10]
        constructor
        · exact .inl
        · rintro (q | ⟨_, a', q, _⟩)
          · exact q
          · omega
      clear a0 a1 a3 a4 a5
      have j6' := j6
      obtain ⟨a0, a1, a3, a4, a5⟩ := j6'
      refine W.seq ?_
      refine W.rseq (k := 4) rfl fun K hK => ?_
      simp only [go_sem, a1, j11, List.length_map]
      refine hK _ _ _ ?_
      clear hK K
      refine W.cond rfl (fun hc2 => ?_) fun hc2 => ?_
      · refine W.skip ?_
        simp only [go_sem]
        have ha : a < N := by simp at hc2; omega
        refine W.seqk fun K hK => ?_
        have nx2 : ∀ (t' : Fr) (h' : Heap) (n' : Nat) (G : Nat → Bool) (o1 : Bool), c < n' → h' b = some (.cells (e1 N F)) → h' c = some (.cells (e1 N G)) → (t' 0 = .ro (l.map eSy) ∧ t' 1 = .ro (w.map eIn) ∧ t' 3 = .ro (e3 M N N (spanF g w)) ∧ t' 4 = .ro (e3 (2 * M) N N (spanF (wildG g) w)) ∧ t' 5 = .int .i64 (M : Nat)) → t' 14 = .sl b 0 N 1 → t' 15 = .bool o1 → t' 16 = .int .i64 i → t' 17 = .sl c 0 N 1 → t' 18 = .int .i64 a → (∀ x, x < N → (G x = true ↔ ∃ a', a' < a + 1 ∧ F a' = true ∧ Der g w [s] a' x)) → (o1 = true ↔ OvT g w (l.take i) fr ∨ s.non = true ∧ ∃ a', a' < a + 1 ∧ F a' = true ∧ Ovr g w s.n a') → K t' h' n' := by
          intro t' h' n' G o1 q1 q2 q3 q4 q5 q6 q7 q8 q9 q10 q11
          refine hK _ _ _ ?_
          clear hK K
          refine W.region (k := 3) rfl ?_
          simp only [go_sem, q9]
          refine ⟨N - (a + 1), by omega, a + 1, G, o1, rfl, by omega, by omega, q2, q3, q4, q5, q6, q7, q8, ?_, q10, q11⟩
          rw [wrap64 (by omega) (by omega)]; rfl
        clear hK nx1
        refine W.block ?_
        refine W.seq ?_
        refine W.rseq (k := 5) rfl fun K hK => ?_
        simp only [go_sem, j7, j11, j4, show (a : Int) < (N : Int) by omega, show (e1 N F)[a]? = some [.bool (F a)] from e1_get (by omega)]
        refine hK _ _ _ ?_
        clear hK K
        cases hFa : F a
        · refine W.condT (by simp only [go_sem, hFa]) ?_
          refine W.exit ?_
          simp only [go_sem]
          refine nx2 _ _ _ G o1 (by omega) j4 j5 j6 j7 j8 j9 j10 j11 (fun x hx => ?_) ?_
          · rw [j12 x hx]
            constructor
            · rintro ⟨a', q1, q2, q3⟩; exact ⟨a', by omega, q2, q3⟩
            · rintro ⟨a', q1, q2, q3⟩
              by_cases e : a' = a
              · rw [e, hFa] at q2; cases q2
              · exact ⟨a', by omega, q2, q3⟩
          · rw [j13]
            refine or_congr Iff.rfl (and_congr_right fun _ => ?_)
            constructor
            · rintro ⟨a', q1, q2, q3⟩; exact ⟨a', by omega, q2, q3⟩
            · rintro ⟨a', q1, q2, q3⟩
              by_cases e : a' = a
              · rw [e, hFa] at q2; cases q2
              · exact ⟨a', by omega, q2, q3⟩
        · refine W.condF (by simp only [go_sem, hFa]) ?_
          refine W.skip ?_
          simp only [go_sem]
          have zb : ¬ b = c := hbc
          refine W.seqk fun K hK => ?_
          have nxA : ∀ (t' : Fr) (h' : Heap) (n' : Nat) (o1 : Bool), c < n' → h' b = some (.cells (e1 N F)) → h' c = some (.cells (e1 N G)) → (t' 0 = .ro (l.map eSy) ∧ t' 1 = .ro (w.map eIn) ∧ t' 3 = .ro (e3 M N N (spanF g w)) ∧ t' 4 = .ro (e3 (2 * M) N N (spanF (wildG g) w)) ∧ t' 5 = .int .i64 (M : Nat)) → t' 14 = .sl b 0 N 1 → t' 15 = .bool o1 → t' 16 = .int .i64 i → t' 17 = .sl c 0 N 1 → t' 18 = .int .i64 a → (o1 = true ↔ OvT g w (l.take i) fr ∨ s.non = true ∧ ∃ a', a' < a + 1 ∧ F a' = true ∧ Ovr g w s.n a') → K t' h' n' := by
            intro t' h' n' o1 q1 q2 q3 q4 q5 q6 q7 q8 q9 q10
            refine hK _ _ _ ?_
            clear hK K j13 j7 j8 j9 j10 j11 a0 a1 a3 a4 a5
            have q4' := q4
            obtain ⟨c0, c1, c3, c4, c5⟩ := q4'
            refine W.seqk fun K hK => ?_
            have nxB : ∀ (t' : Fr) (h' : Heap) (n' : Nat) (G2 : Nat → Bool), c < n' → h' b = some (.cells (e1 N F)) → h' c = some (.cells (e1 N G2)) → (t' 0 = .ro (l.map eSy) ∧ t' 1 = .ro (w.map eIn) ∧ t' 3 = .ro (e3 M N N (spanF g w)) ∧ t' 4 = .ro (e3 (2 * M) N N (spanF (wildG g) w)) ∧ t' 5 = .int .i64 (M : Nat)) → t' 14 = .sl b 0 N 1 → t' 15 = .bool o1 → t' 16 = .int .i64 i → t' 17 = .sl c 0 N 1 → t' 18 = .int .i64 a → (s.non = true → (∀ x, x < N → (G2 x = true ↔ ∃ a', a' < a ∧ F a' = true ∧ Der g w [s] a' x))) → (s.non = false → (∀ x, x < N → (G2 x = true ↔ ∃ a', a' < a + 1 ∧ F a' = true ∧ Der g w [s] a' x))) → K t' h' n' := by
              intro t' h' n' G2 p1 p2 p3 p4 p5 p6 p7 p8 p9 p10 p11
              refine hK _ _ _ ?_
              clear hK K
              have p4' := p4
              obtain ⟨d0, d1, d3, d4, d5⟩ := p4'
              refine W.rseq (k := 2) rfl fun K hK => ?_
              simp only [go_sem, p9]
              refine hK _ _ _ ?_
              clear hK K
              cases hsn : s.non
              · refine W.block (W.while (fun m t h2 n2 => m = 0 ∧ c < n2 ∧ h2 b = some (.cells (e1 N F)) ∧ h2 c = some (.cells (e1 N G2)) ∧ (t 0 = .ro (l.map eSy) ∧ t 1 = .ro (w.map eIn) ∧ t 3 = .ro (e3 M N N (spanF g w)) ∧ t 4 = .ro (e3 (2 * M) N N (spanF (wildG g) w)) ∧ t 5 = .int .i64 (M : Nat)) ∧ t 14 = .sl b 0 N 1 ∧ t 15 = .bool o1 ∧ t 16 = .int .i64 i ∧ t 17 = .sl c 0 N 1 ∧ t 18 = .int .i64 a ∧ t 19 = .int .i64 a) 0
                  ⟨rfl, by omega, p2, p3, p4, p5, p6, p7, p8, p9, rfl⟩ fun m t h2 n2 ⟨k1, k2, k3, k4, k5, k6, k7, k8, k9, k10, k11⟩ => ?_)
                have k5' := k5
                obtain ⟨e0, e1', e3', e4', e5'⟩ := k5'
                refine W.seq ?_
                refine W.rseq (k := 11) rfl fun K hK => ?_
                simp only [go_sem, k11, e1', e0, k8, hsi, hsn, List.length_map, decide_eq_true (show (a : Int) ≤ (w.length : Int) by omega)]
                refine hK _ _ _ ?_
                clear hK K
                refine W.condF (by simp only [go_sem]) ?_
                refine W.exit ?_
                simp only [go_sem]
                exact nx2 _ _ _ G2 o1 (by omega) k3 k4 k5 k6 k7 k8 k9 k10 (p11 hsn) q10
              · obtain ⟨h0, hM'⟩ := hsm hsn
                obtain ⟨ν, hν⟩ : ∃ ν : Nat, s.n = ν := ⟨s.n.toNat, by omega⟩
                have hνM : ν < M := by omega
                have hsy : s = ⟨true, (ν : Int)⟩ := by rw [← hν]; exact sy_non hsn
                have hsp : ∀ y, (spanF g w ν a y = true ↔ Der g w [s] a y) := fun y => by rw [spanF_iff, ← hsy]
                refine W.block (W.while (fun m t h2 n2 => ∃ (y : Nat) (G2 : Nat → Bool), m = N - y ∧ a ≤ y ∧ y ≤ N ∧ c < n2 ∧ h2 b = some (.cells (e1 N F)) ∧ h2 c = some (.cells (e1 N G2)) ∧ (t 0 = .ro (l.map eSy) ∧ t 1 = .ro (w.map eIn) ∧ t 3 = .ro (e3 M N N (spanF g w)) ∧ t 4 = .ro (e3 (2 * M) N N (spanF (wildG g) w)) ∧ t 5 = .int .i64 (M : Nat)) ∧ t 14 = .sl b 0 N 1 ∧ t 15 = .bool o1 ∧ t 16 = .int .i64 i ∧ t 17 = .sl c 0 N 1 ∧ t 18 = .int .i64 a ∧ t 19 = .int .i64 y ∧ (∀ x, x < N → (G2 x = true ↔ (∃ a', a' < a ∧ F a' = true ∧ Der g w [s] a' x) ∨ (x < y ∧ Der g w [s] a x)))) (N - a)
                  ⟨a, G2, rfl, by omega, by omega, by omega, p2, p3, p4, p5, p6, p7, p8, p9, rfl, fun x hx => ?_⟩ fun m t h2 n2 ⟨y, G3, k1, ky, k2, k0, k3, k4, k5, k6, k7, k8, k9, k10, k11, k12⟩ => ?_)
                · rw [p10 hsn x hx]
                  constructor
                  · exact .inl
                  · rintro (r | ⟨r1, r2⟩)
                    · exact r
                    · have := r2.le; omega
                have k5' := k5
                obtain ⟨e0, e1', e3', e4', e5'⟩ := k5'
                refine W.seq ?_
                by_cases hy : y < N
                · refine W.rseq (k := 11) rfl fun K hK => ?_
                  simp only [go_sem, k11, e1', e0, k8, hsi, hsn, List.length_map, decide_eq_true (show (y : Int) ≤ (w.length : Int) by omega)]
                  refine hK _ _ _ ?_
                  clear hK K
                  refine W.condT (by simp only [go_sem]) ?_
                  refine W.skip ?_
                  simp only [go_sem]
                  refine W.seqk fun K hK => ?_
                  have nxC : ∀ (t' : Fr) (h' : Heap) (n' : Nat) (G4 : Nat → Bool), c < n' → h' b = some (.cells (e1 N F)) → h' c = some (.cells (e1 N G4)) → (t' 0 = .ro (l.map eSy) ∧ t' 1 = .ro (w.map eIn) ∧ t' 3 = .ro (e3 M N N (spanF g w)) ∧ t' 4 = .ro (e3 (2 * M) N N (spanF (wildG g) w)) ∧ t' 5 = .int .i64 (M : Nat)) → t' 14 = .sl b 0 N 1 → t' 15 = .bool o1 → t' 16 = .int .i64 i → t' 17 = .sl c 0 N 1 → t' 18 = .int .i64 a → t' 19 = .int .i64 y → (∀ x, x < N → (G4 x = true ↔ (∃ a', a' < a ∧ F a' = true ∧ Der g w [s] a' x) ∨ (x < y + 1 ∧ Der g w [s] a x))) → K t' h' n' := by
                    intro t' h' n' G4 r1 r2 r3 r4 r5 r6 r7 r8 r9 r10 r11
                    refine hK _ _ _ ?_
                    clear hK K
                    refine W.region (k := 3) rfl ?_
                    simp only [go_sem, r10]
                    refine ⟨N - (y + 1), by omega, y + 1, G4, rfl, by omega, by omega, by omega, r2, r3, r4, r5, r6, r7, r8, r9, ?_, r11⟩
                    rw [wrap64 (by omega) (by omega)]; rfl
                  clear hK
                  refine W.block ?_
                  refine W.region (k := 24) rfl ?_
                  cases hGy : G3 y
                  · simp only [go_sem, k9, k10, k11, k4, show (e1 N G3)[y]? = some [.bool (G3 y)] from e1_get hy, hGy, show (y : Int) < (N : Int) by omega, e3', e0, k8, hsi, hsn, hν, e3_get (n := M) (m := N) (k := N) (f := spanF g w) hνM, e2_get (m := N) (k := N) (f := spanF g w ν) ha, e1_get (k := N) (f := spanF g w ν a) hy]
                    refine nxC _ _ _ (fun x => if x = y then spanF g w ν a y else G3 x) (by omega) (by simp only [go_sem, zb, k3]) (by simp only [go_sem, e1_set]) k5 k6 k7 k8 k9 k10 k11 fun x hx => ?_
                    by_cases e : x = y
                    · rw [if_pos e, e, hsp]
                      constructor
                      · intro r; exact .inr ⟨by omega, r⟩
                      · rintro (r | r)
                        · have := (k12 y hy).2 (.inl r)
                          rw [hGy] at this; cases this
                        · exact r.2
                    · rw [if_neg e, k12 x hx]
                      refine or_congr Iff.rfl (and_congr_left fun _ => ⟨fun _ => by omega, fun _ => by omega⟩)
                  · simp only [go_sem, k9, k10, k11, k4, show (e1 N G3)[y]? = some [.bool (G3 y)] from e1_get hy, hGy, show (y : Int) < (N : Int) by omega]
                    refine nxC _ _ _ (fun x => if x = y then true else G3 x) (by omega) (by simp only [go_sem, zb, k3]) (by simp only [go_sem, e1_set]) k5 k6 k7 k8 k9 k10 k11 fun x hx => ?_
                    have hke : (if x = y then true else G3 x) = G3 x := by
                      by_cases e : x = y
                      · simp only [e, if_true, hGy]
                      · simp only [e, if_false]
                    show (if x = y then true else G3 x) = true ↔ _
                    rw [hke, k12 x hx]
                    constructor
                    · rintro (r | ⟨r1, r2⟩)
                      · exact .inl r
                      · exact .inr ⟨by omega, r2⟩
                    · rintro (r | ⟨r1, r2⟩)
                      · exact .inl r
                      · by_cases e : x = y
                        · subst e
                          exact (k12 x hx).1 hGy
                        · exact .inr ⟨by omega, r2⟩
                · refine W.rseq (k := 11) rfl fun K hK => ?_
                  simp only [go_sem, k11, e1', e0, k8, hsi, hsn, List.length_map, decide_eq_false (show ¬ (y : Int) ≤ (w.length : Int) by omega)]
                  refine hK _ _ _ ?_
                  clear hK K
                  refine W.condF (by simp only [go_sem]) ?_
                  refine W.exit ?_
                  simp only [go_sem]
                  refine nx2 _ _ _ G3 o1 (by omega) k3 k4 k5 k6 k7 k8 k9 k10 (fun x hx => ?_) q10
                  rw [k12 x hx]
                  constructor
                  · rintro (⟨a', r1, r2, r3⟩ | ⟨r1, r2⟩)
                    · exact ⟨a', by omega, r2, r3⟩
                    · exact ⟨a, by omega, hFa, r2⟩
                  · rintro ⟨a', r1, r2, r3⟩
                    by_cases e : a' = a
                    · subst e; exact .inr ⟨by omega, r3⟩
                    · exact .inl ⟨a', by omega, r2, r3⟩
            clear hK nx2
            cases hsn : s.non
            · have hex : ∀ {x : Nat}, (∃ a', a' < a + 1 ∧ F a' = true ∧ Der g w [s] a' x) ↔ (∃ a', a' < a ∧ F a' = true ∧ Der g w [s] a' x) ∨ (w[a]? = some s.n ∧ x = a + 1) := fun {x} => by
                constructor
                · rintro ⟨a', r1, r2, r3⟩
                  by_cases e : a' = a
                  · subst e; exact .inr ((der_t hsn).1 r3)
                  · exact .inl ⟨a', by omega, r2, r3⟩
                · rintro (⟨a', r1, r2, r3⟩ | r)
                  · exact ⟨a', by omega, r2, r3⟩
                  · exact ⟨a, by omega, hFa, (der_t hsn).2 r⟩
              by_cases hal : a < w.length
              · obtain ⟨v, hv⟩ := get_some hal
                by_cases hvs : v = s.n
                · refine W.dseq (k := 24) rfl fun K hK => ?_
                  simp only [go_sem, c0, q7, hsi, hsn, c1, q9, List.length_map, decide_eq_true (show (a : Int) < (w.length : Int) by omega), hv, eIn, decide_eq_true hvs]
                  refine hK _ _ _ _ (by kernel_rfl) ?_
                  clear hK K
                  refine W.condT (by simp only [go_sem]) ?_
                  have hwa : IntKind.wrap .i64 ((a : Int) + 1) = ((a + 1 : Nat) : Int) := by rw [wrap64 (by omega) (by omega)]; rfl
                  refine W.region (k := 5) rfl ?_
                  simp only [go_sem, q8, q9, hwa, q3, show ((a + 1 : Nat) : Int) < (N : Int) by omega, show (e1 N G)[a + 1]? = some [.bool (G (a + 1))] from e1_get (by omega)]
                  refine nxB _ _ _ (fun x => if x = a + 1 then true else G x) (by omega) (by simp only [go_sem, zb, q2]) (by simp only [go_sem, e1_set]) q4 q5 q6 q7 q8 q9 (fun e => by rw [hsn] at e; cases e) fun _ x hx => ?_
                  rw [hex, hv, hvs]
                  by_cases e : x = a + 1
                  · simp [e]
                  · simp only [e, if_false, and_false, or_false]
                    exact j12 x hx
                · refine W.dseq (k := 24) rfl fun K hK => ?_
                  simp only [go_sem, c0, q7, hsi, hsn, c1, q9, List.length_map, decide_eq_true (show (a : Int) < (w.length : Int) by omega), hv, eIn, decide_eq_false hvs]
                  refine hK _ _ _ _ (by kernel_rfl) ?_
                  clear hK K
                  refine W.condF (by simp only [go_sem]) ?_
                  refine W.skip ?_
                  simp only [go_sem]
                  refine nxB _ _ _ G (by omega) q2 q3 q4 q5 q6 q7 q8 q9 (fun e => by rw [hsn] at e; cases e) fun _ x hx => ?_
                  rw [hex, hv, j12 x hx]
                  constructor
                  · exact .inl
                  · rintro (r | ⟨r, _⟩)
                    · exact r
                    · injection r with r; exact absurd r hvs
              · refine W.dseq (k := 24) rfl fun K hK => ?_
                simp only [go_sem, c0, q7, hsi, hsn, c1, q9, List.length_map, decide_eq_false (show ¬ (a : Int) < (w.length : Int) by omega)]
                refine hK _ _ _ _ (by kernel_rfl) ?_
                clear hK K
                refine W.condF (by simp only [go_sem]) ?_
                refine W.skip ?_
                simp only [go_sem]
                refine nxB _ _ _ G (by omega) q2 q3 q4 q5 q6 q7 q8 q9 (fun e => by rw [hsn] at e; cases e) fun _ x hx => ?_
                rw [hex, j12 x hx]
                constructor
                · exact .inl
                · rintro (r | ⟨r, _⟩)
                  · exact r
                  · have := (List.getElem?_eq_some_iff.1 r).1
                    omega
            · refine W.dseq (k := 24) rfl fun K hK => ?_
              simp only [go_sem, c0, q7, hsi, hsn]
              refine hK _ _ _ _ (by kernel_rfl) ?_
              clear hK K
              refine W.condF (by simp only [go_sem]) ?_
              refine W.skip ?_
              simp only [go_sem]
              exact nxB _ _ _ G (by omega) q2 q3 q4 q5 q6 q7 q8 q9 (fun _ => j12) (fun e => by rw [hsn] at e; cases e)
          clear hK nx2
          cases hsn : s.non
          · refine W.rseq (k := 24) rfl fun K hK => ?_
            simp only [go_sem, a0, j9, hsi, hsn]
            refine hK _ _ _ ?_
            clear hK K
            refine W.condF (by simp only [go_sem]) ?_
            refine W.skip ?_
            simp only [go_sem]
            refine nxA _ _ _ o1 (by omega) j4 j5 j6 j7 j8 j9 j10 j11 ?_
            rw [j13, hsn]
            simp
          · obtain ⟨h0, hM'⟩ := hsm hsn
            obtain ⟨ν, hν⟩ : ∃ ν : Nat, s.n = ν := ⟨s.n.toNat, by omega⟩
            have hνM : ν < M := by omega
            have hix : IntKind.wrap .i64 ((M : Int) + (ν : Int)) = ((M + ν : Nat) : Int) := by rw [wrap64 (by omega) (by omega)]; rfl
            have hov' := hov ν a hνM
            rw [← hν] at hov'
            refine W.rseq (k := 24) rfl fun K hK => ?_
            simp only [go_sem, a0, j9, hsi, hsn, a4, a5, hν, hix, j11, a1, List.length_map, e3_get (n := 2 * M) (m := N) (k := N) (f := spanF (wildG g) w) (show M + ν < 2 * M by omega), e2_get (m := N) (k := N) (f := spanF (wildG g) w (M + ν)) ha, e1_get (k := N) (f := spanF (wildG g) w (M + ν) a) (show w.length < N by omega)]
            refine hK _ _ _ ?_
            clear hK K
            cases hv : spanF (wildG g) w (M + ν) a w.length
            · refine W.condF (by simp only [go_sem, hv]) ?_
              refine W.skip ?_
              simp only [go_sem]
              refine nxA _ _ _ o1 (by omega) j4 j5 j6 j7 j8 j9 j10 j11 ?_
              rw [j13]
              refine or_congr Iff.rfl (and_congr_right fun _ => ?_)
              constructor
              · rintro ⟨a', r1, r2, r3⟩; exact ⟨a', by omega, r2, r3⟩
              · rintro ⟨a', r1, r2, r3⟩
                by_cases e : a' = a
                · subst e
                  have := hov'.2 r3
                  rw [hv] at this; cases this
                · exact ⟨a', by omega, r2, r3⟩
            · refine W.condT (by simp only [go_sem, hv]) ?_
              refine W.region (k := 1) rfl ?_
              simp only [go_sem]
              refine nxA _ _ _ true (by omega) j4 j5 j6 j7 rfl j9 j10 j11 ?_
              refine ⟨fun _ => .inr ⟨hsn, a, by omega, hFa, hov'.1 hv⟩, fun _ => rfl⟩
      · refine W.exit ?_
        simp only [go_sem]
        have ha : a = N := by simp at hc2; omega
        subst ha
        exact nx1 _ _ _ G o1 (by omega) j5 j6 j8 j9 j10 j12 j13
    · refine W.exit ?_
      simp only [go_sem]
      have hi : i = l.length := by simp at hc; omega
      rw [hi, List.take_length] at i9 i10
      exact nx0 _ _ _ F o b i4 i6 i7 i9 i10
  obtain ⟨r, h', n', hb, F, o, b, rfl, q1, q2, q3⟩ := fin
  refine ⟨F, o, ⟨_, h', n', hb, 7, fun fr => ?_⟩, q2, q3⟩
  have he : rfe fr 4 h' (e1 N F) = some (e1 N F) := rfe_e1
  have h1 : rf fr 5 h' (.sl b 0 N 1) = some (.ro (e1 N F)) := rf_sla (d := 4) q1 (by simp [e1]) he
  unfold rf
  simp only [rfs, List.mapM_cons, h1]
  rfl

end Go.Av

