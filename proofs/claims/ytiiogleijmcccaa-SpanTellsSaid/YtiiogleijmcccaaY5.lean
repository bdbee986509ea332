/-
  Layer 16, the document's answer: its rows, walked. Conditions: none.
-/
import Derived.Test.YtiiogleijmcccaaY3
import Derived.Test.YtiiogleijmcccaaY4
namespace Go.Av
open Go.Proofs
set_option maxRecDepth 100000
set_option linter.unusedSimpArgs false
set_option linter.unusedVariables false

theorem bits_add {F : Nat → Bool} {k : Nat} (h : F k = true) : bitsN F k + 2 ^ k = bitsN F (k + 1) := by rw [bitsN, if_pos h]

theorem bits_no {F : Nat → Bool} {k : Nat} (h : F k = false) : bitsN F k = bitsN F (k + 1) := by rw [bitsN, h, if_neg (by decide)]

theorem add_n32 {a b : Nat} (h : a + b < 2 ^ 32) : IntKind.wrap .u32 ((a : Int) + (b : Int)) = ((a + b : Nat) : Int) := by
  rw [show (a : Int) + (b : Int) = ((a + b : Nat) : Int) by omega]
  exact wrapN h

theorem dbl_n32 {a : Nat} (h : 2 * a < 2 ^ 32) : IntKind.wrap .u32 (2 * (a : Int)) = ((2 * a : Nat) : Int) := by
  rw [show 2 * (a : Int) = ((2 * a : Nat) : Int) by omega]
  exact wrapN h

theorem range_one {α : Type} {f : Nat → α} {a : Nat} : (List.range (a + 1)).map f = (List.range a).map f ++ [f a] := by rw [List.range_succ, List.map_append]; rfl

set_option maxHeartbeats 16000000 in
theorem f75 (g : Gr) (hg : g.Small) (w : List Int) (hwl : w.length < 2 ^ 29) (hne : fitG g w = true → g.prods ≠ []) : PF pg Tq 75 [.agg (eGr g), .ro (w.map eIn)] (.ro ((if fitG g w = true then rwsW g w else []).map eRw)) := by
  have h76 := f76 g hg w (by omega)
  have fin : FH pg Tq 75 [.agg (eGr g), .ro (w.map eIn)] h0 0 fun r h n => SlL eRw 25 h 0 n r (if fitG g w = true then rwsW g w else []) := by
    refine FH.of (N := 100) (rs := #[.tmp 4]) Try.func75 rfl rfl (of_decide_eq_true rfl) rfl (by decide) ?_
    refine W.rseq (k := 2) rfl fun K hK => ?_
    simp only [go_sem]
    refine hK _ _ _ ?_
    clear hK K
    refine W.seq ?_
    cases hf : fitG g w
    · rw [hf] at h76
      refine W.rseq (k := 4) rfl fun K hK => ?_
      simp only [go_sem]
      refine VCall.frz 6 h76 rfl ?_
      try simp only [go_sem]
      refine hK _ _ _ ?_
      clear hK K
      refine W.condT (by simp only [go_sem]) ?_
      refine W.rseq (k := 1) rfl fun K hK => ?_
      simp only [go_sem]
      refine hK _ _ _ ?_
      clear hK K
      refine W.ret ?_
      simp only [go_sem]
      exact .inl ⟨rfl, rfl⟩
    rw [hf] at h76
    refine W.rseq (k := 4) rfl fun K hK => ?_
    simp only [go_sem]
    refine VCall.frz 6 h76 rfl ?_
    try simp only [go_sem]
    refine hK _ _ _ ?_
    clear hK K
    refine W.condF (by simp only [go_sem]) ?_
    refine W.skip ?_
    simp only [go_sem]
    have hr := fit_right hf
    have hw := fit_len hf
    obtain ⟨⟨hn1, hn2⟩, _⟩ := right_in hr
    have hgp := hne hf
    obtain ⟨M, hM⟩ : ∃ M, M = g.nons.toNat := ⟨_, rfl⟩
    have hMi : (M : Int) = g.nons := by omega
    have hM24 : M ≤ 24 := by omega
    obtain ⟨N, hN⟩ : ∃ N, N = w.length + 1 := ⟨_, rfl⟩
    have hM2 : (wildG g).nons.toNat = 2 * M := by show (2 * g.nons).toNat = _; omega
    have h36 := f36 g hg (right_dom hr) w (by omega)
    have h36' := f36 (wildG g) (wild_small hr) (wild_dom hr) w (by omega)
    rw [hM2, ← hN] at h36'
    rw [← hM, ← hN] at h36
    refine W.rseq (k := 4) rfl fun K hK => ?_
    simp only [go_sem]
    refine VCall.frz 6 h36 rfl ?_
    try simp only [go_sem]
    refine hK _ _ _ ?_
    clear hK K
    refine W.rseq (k := 5) rfl fun K hK => ?_
    simp only [go_sem]
    refine VCall.frzr 6 (f83 g hg hr hgp) rfl ?_
    simp only [go_sem]
    refine VCall.frz 6 h36' rfl ?_
    simp only [go_sem]
    refine hK _ _ _ ?_
    first | clear hK K | clear hK | skip
    refine W.rseq (k := 2) rfl fun K hK => ?_
    simp only [go_sem]
    refine hK _ _ _ ?_
    clear hK K
    refine W.seqk fun K hK => ?_
    refine W.rseq (k := 1) rfl fun K hK => ?_
    simp only [go_sem]
    refine hK _ _ _ ?_
    clear hK K
    have nx0 : ∀ (t' : Fr) (h' : Heap) (n' : Nat), SlL eRw 25 h' 1 n' (t' 7) (rwsW g w) → K t' h' n' := by
      intro t' h' n' e1
      refine hK _ _ _ ?_
      clear hK K
      refine W.rseq (k := 2) rfl fun K hK => ?_
      simp only [go_sem]
      refine hK _ _ _ ?_
      clear hK K
      refine W.ret ?_
      simp only [go_sem]
      exact e1.next rfl (fun x _ _ => rfl) (by omega) (by omega)
    clear hK
    refine W.block (W.while (fun m t h n => ∃ a : Nat, m = N - a ∧ a ≤ N ∧ 0 < n ∧ h 0 = some (.cells [eGr g]) ∧ SlL eRw 25 h 1 n (t 7) ((List.range a).map (rwW g w)) ∧ (t 1 = .ro (w.map eIn) ∧ t 2 = .ptr 0 0 0 ∧ t 5 = .ro (e3 M N N (spanF g w)) ∧ t 6 = .ro (e3 (2 * M) N N (spanF (wildG g) w))) ∧ t 8 = .int .i64 a) N
      ⟨0, rfl, by omega, by omega, by simp only [go_sem], .inl ⟨rfl, rfl⟩, ⟨rfl, rfl, rfl, rfl⟩, rfl⟩ fun m t h n ⟨a, i1, i2, i3, i4, i5, i6, i7⟩ => ?_)
    have i6' := i6
    obtain ⟨a1, a2, a5, a6⟩ := i6'
    refine W.seq ?_
    refine W.rseq (k := 4) rfl fun K hK => ?_
    simp only [go_sem, a1, i7]
    refine hK _ _ _ ?_
    clear hK K
    refine W.cond rfl (fun hc => ?_) fun hc => ?_
    · refine W.skip ?_
      simp only [go_sem]
      have ha : a < N := by simp at hc; omega
      have z0 : ∀ j, ¬ 0 = n + j := fun j => by omega
      refine W.seqk fun K hK => ?_
      have nx : ∀ (t' : Fr) (h' : Heap) (n' : Nat), 0 < n' → h' 0 = some (.cells [eGr g]) → SlL eRw 25 h' 1 n' (t' 7) ((List.range (a + 1)).map (rwW g w)) → (t' 1 = .ro (w.map eIn) ∧ t' 2 = .ptr 0 0 0 ∧ t' 5 = .ro (e3 M N N (spanF g w)) ∧ t' 6 = .ro (e3 (2 * M) N N (spanF (wildG g) w))) → t' 8 = .int .i64 a → K t' h' n' := by
        intro t' h' n' e1 e2 e3 e4 e5
        refine hK _ _ _ ?_
        clear hK K
        refine W.region (k := 3) rfl ?_
        simp only [go_sem, e5]
        refine ⟨N - (a + 1), by omega, a + 1, rfl, by omega, by omega, e2, e3.next rfl (fun x _ _ => rfl) (by omega) (Nat.le_refl _), e4, ?_⟩
        rw [wrap64 (by omega) (by omega)]; rfl
      clear hK
      refine W.block ?_
      refine W.rseq (k := 3) rfl fun K hK => ?_
      simp only [go_sem, eR_z, eR_len, eR_tk, eR_scal, eR_dz, List.append_nil, z0]
      refine hK _ _ _ ?_
      clear hK K
      obtain ⟨B, hB⟩ : ∃ B, B = n + 5 := ⟨_, rfl⟩
      refine W.seqk fun K hK => ?_
      refine W.rseq (k := 1) rfl fun K hK => ?_
      simp only [go_sem]
      refine hK _ _ _ ?_
      clear hK K
      have nx1 : ∀ (t' : Fr) (h' : Heap) (n' : Nat) (f : Nat → Nat), B < n' → h' 0 = some (.cells [eGr g]) → h' B = some (.cells [eRw f]) → SlL eRw 25 h' 1 B (t' 7) ((List.range a).map (rwW g w)) → (t' 1 = .ro (w.map eIn) ∧ t' 2 = .ptr 0 0 0 ∧ t' 5 = .ro (e3 M N N (spanF g w)) ∧ t' 6 = .ro (e3 (2 * M) N N (spanF (wildG g) w))) → t' 8 = .int .i64 a → t' 9 = .ptr B 0 0 → (∀ x, f x = if x < M then bitsN (endW g w a x) (N - a) else 0) → K t' h' n' := by
        intro t' h' n' f q1 q2 q3 q4 q5 q6 q7 q8
        refine hK _ _ _ ?_
        clear hK K
        refine W.rseq (k := 1) rfl fun K hK => ?_
        simp only [go_sem]
        refine hK _ _ _ ?_
        clear hK K
        refine W.seqk fun K hK => ?_
        refine W.rseq (k := 1) rfl fun K hK => ?_
        simp only [go_sem]
        refine hK _ _ _ ?_
        clear hK K
        have nx2 : ∀ (t' : Fr) (h' : Heap) (n' : Nat), B < n' → h' 0 = some (.cells [eGr g]) → h' B = some (.cells [eRw (rwW g w a)]) → SlL eRw 25 h' 1 B (t' 7) ((List.range a).map (rwW g w)) → (t' 1 = .ro (w.map eIn) ∧ t' 2 = .ptr 0 0 0 ∧ t' 5 = .ro (e3 M N N (spanF g w)) ∧ t' 6 = .ro (e3 (2 * M) N N (spanF (wildG g) w))) → t' 8 = .int .i64 a → t' 9 = .ptr B 0 0 → K t' h' n' := by
          intro t' h' n' q1 q2 q3 q4 q5 q6 q7
          refine hK _ _ _ ?_
          clear hK K
          have zn : ∀ j, ¬ 0 = n' + j := fun j => by omega
          have zB : ∀ j, ¬ B = n' + j := fun j => by omega
          refine W.region (k := 5) rfl ?_
          rcases q4 with ⟨w0, w5⟩ | ⟨b, w5, w1, w2, w3⟩
          · have ha0 : a = 0 := by simpa using w0
            simp only [go_sem, q7, q3, w5, eR_len, eR_tk, eR_scal, zn, zB, show (n' ≤ n' + 2) = True from eq_true (by omega), if_true, Nat.one_mul]
            refine nx _ _ _ (by omega) (by simp only [go_sem, zn, q2]) (.inr ⟨n' + 3, by rw [ha0]; rfl, by omega, by omega, by rw [ha0]; simp only [go_sem]; rfl⟩) q5 q6
          · have zb : ∀ j, ¬ b = n' + j := fun j => by omega
            have tkL : ((((List.range a).map (rwW g w)).map eRw).take a) = ((List.range a).map (rwW g w)).map eRw := List.take_of_length_le (by simp)
            simp only [go_sem, q7, q3, w5, w3, eR_len, eR_tk, eR_scal, zn, zB, zb, tkL, List.length_map, List.length_range, show (a + 1) * 100 ≤ 140737488355328 by omega, and_false, if_false, if_true, show (n' ≤ b) = False from eq_false (by omega)]
            refine nx _ _ _ (by omega) (by simp only [go_sem, zn, q2, show ¬ 0 = b by omega]) (.inr ⟨n' + 3, by rw [List.length_map, List.length_range]; rfl, by omega, by omega, by simp only [go_sem]; rw [List.map_append, List.map_append]; rfl⟩) q5 q6
        clear hK
        refine W.block (W.while (fun m t h n => ∃ (i : Nat) (f : Nat → Nat), m = M - i ∧ i ≤ M ∧ B < n ∧ h 0 = some (.cells [eGr g]) ∧ h B = some (.cells [eRw f]) ∧ SlL eRw 25 h 1 B (t 7) ((List.range a).map (rwW g w)) ∧ (t 1 = .ro (w.map eIn) ∧ t 2 = .ptr 0 0 0 ∧ t 5 = .ro (e3 M N N (spanF g w)) ∧ t 6 = .ro (e3 (2 * M) N N (spanF (wildG g) w))) ∧ t 8 = .int .i64 a ∧ t 9 = .ptr B 0 0 ∧ (∀ x, f x = if x = 24 then bitsN (ovrW g w a) i else if x < M then bitsN (endW g w a x) (N - a) else 0) ∧ t 13 = .int .u32 ((2 ^ i : Nat) : Int) ∧ t 14 = .int .i64 i) M
          ⟨0, f, rfl, by omega, by omega, q2, q3, q4, q5, q6, q7, fun x => ?_, rfl, rfl⟩ fun m t h n ⟨i, f, k1, k2, k3, k4, k5, k6, k7, k8, k9, k10, k11, k12⟩ => ?_)
        · rw [q8 x]
          by_cases e : x = 24
          · rw [if_pos e, if_neg (by omega)]; rfl
          · rw [if_neg e]
        clear q1 q2 q3 q4 q5 q6 q7 q8
        have k7' := k7
        obtain ⟨c1, c2, c5, c6⟩ := k7'
        refine W.seq ?_
        refine W.rseq (k := 4) rfl fun K hK => ?_
        simp only [go_sem, c2, k4, k12, ← hMi]
        refine hK _ _ _ ?_
        clear hK K
        refine W.cond rfl (fun hc2 => ?_) fun hc2 => ?_
        · refine W.skip ?_
          simp only [go_sem]
          have hi : i < M := by simp at hc2; omega
          have p30 : 2 ^ i ≤ 2 ^ 24 := Nat.pow_le_pow_right (by decide) (by omega)
          have hbl : bitsN (ovrW g w a) i < 2 ^ i := bitsN_lt i
          have f24 : f 24 = bitsN (ovrW g w a) i := by rw [k10, if_pos rfl]
          refine W.seqk fun K hK => ?_
          have nx3 : ∀ (t' : Fr) (h' : Heap) (n' : Nat) (f : Nat → Nat), B < n' → h' 0 = some (.cells [eGr g]) → h' B = some (.cells [eRw f]) → SlL eRw 25 h' 1 B (t' 7) ((List.range a).map (rwW g w)) → (t' 1 = .ro (w.map eIn) ∧ t' 2 = .ptr 0 0 0 ∧ t' 5 = .ro (e3 M N N (spanF g w)) ∧ t' 6 = .ro (e3 (2 * M) N N (spanF (wildG g) w))) → t' 8 = .int .i64 a → t' 9 = .ptr B 0 0 → (∀ x, f x = if x = 24 then bitsN (ovrW g w a) (i + 1) else if x < M then bitsN (endW g w a x) (N - a) else 0) → t' 13 = .int .u32 ((2 ^ (i + 1) : Nat) : Int) → t' 14 = .int .i64 i → K t' h' n' := by
            intro t' h' n' f q1 q2 q3 q4 q5 q6 q7 q8 q9 q10
            refine hK _ _ _ ?_
            clear hK K
            refine W.region (k := 3) rfl ?_
            simp only [go_sem, q10]
            refine ⟨M - (i + 1), by omega, i + 1, f, rfl, by omega, by omega, q2, q3, q4, q5, q6, q7, q8, q9, ?_⟩
            rw [wrap64 (by omega) (by omega)]; rfl
          clear hK
          have hix : IntKind.wrap .i64 (g.nons + (i : Int)) = ((M + i : Nat) : Int) := by rw [wrap64 (by omega) (by omega)]; omega
          refine W.block ?_
          refine W.seqk fun K hK => ?_
          refine W.rseq (k := 14) rfl fun K hK => ?_
          simp only [go_sem, c1, c2, c6, k4, k8, k12, hix, List.length_map, e3_get (n := 2 * M) (m := N) (k := N) (f := spanF (wildG g) w) (show M + i < 2 * M by omega), e2_get (m := N) (k := N) (f := spanF (wildG g) w (M + i)) ha, e1_get (k := N) (f := spanF (wildG g) w (M + i) a) (show w.length < N by omega)]
          refine hK _ _ _ ?_
          clear hK K
          have hdb : IntKind.wrap .u32 (2 * ((2 ^ i : Nat) : Int)) = ((2 ^ (i + 1) : Nat) : Int) := by rw [dbl_n32 (by omega), Nat.pow_succ, Nat.mul_comm]
          have hadd : IntKind.wrap .u32 (((f 24 : Nat) : Int) + ((2 ^ i : Nat) : Int)) = ((f 24 + 2 ^ i : Nat) : Int) := add_n32 (by rw [f24]; omega)
          have nxb : ∀ (t' : Fr) (h' : Heap) (n' : Nat) (f : Nat → Nat), B < n' → h' 0 = some (.cells [eGr g]) → h' B = some (.cells [eRw f]) → SlL eRw 25 h' 1 B (t' 7) ((List.range a).map (rwW g w)) → (t' 1 = .ro (w.map eIn) ∧ t' 2 = .ptr 0 0 0 ∧ t' 5 = .ro (e3 M N N (spanF g w)) ∧ t' 6 = .ro (e3 (2 * M) N N (spanF (wildG g) w))) → t' 8 = .int .i64 a → t' 9 = .ptr B 0 0 → (∀ x, f x = if x = 24 then bitsN (ovrW g w a) (i + 1) else if x < M then bitsN (endW g w a x) (N - a) else 0) → t' 13 = .int .u32 ((2 ^ i : Nat) : Int) → t' 14 = .int .i64 i → K t' h' n' := by
            intro t' h' n' f q1 q2 q3 q4 q5 q6 q7 q8 q9 q10
            refine hK _ _ _ ?_
            clear hK K
            refine W.region (k := 3) rfl ?_
            simp only [go_sem, q9, hdb]
            exact nx3 _ _ _ f (by omega) q2 q3 q4 q5 q6 q7 q8 rfl q10
          clear hK
          cases ho : spanF (wildG g) w (M + i) a w.length
          · refine W.condF (by simp only [go_sem, ho]) ?_
            refine W.skip ?_
            simp only [go_sem]
            refine nxb _ _ _ f (by omega) k4 k5 k6 k7 k8 k9 (fun x => ?_) k11 k12
            rw [k10 x]
            by_cases e : x = 24
            · rw [if_pos e, if_pos e]
              exact bits_no (by rw [ovrW, ← hM]; exact ho)
            · rw [if_neg e, if_neg e]
          · refine W.condT (by simp only [go_sem, ho]) ?_
            refine W.region (k := 6) rfl ?_
            simp only [go_sem, k9, k5, k11, eR_len, eR_get (show 24 < 25 by omega), hadd, eR_over (show 24 < 25 by omega)]
            refine nxb _ _ _ (fun x => if x = 24 then f 24 + 2 ^ i else f x) (by omega) (by simp only [go_sem, k4, show ¬ 0 = B by omega]) (by simp only [go_sem]) (k6.next rfl (fun x q q' => by simp only [go_sem, show ¬ x = B by omega]) (by omega) (Nat.le_refl _)) k7 k8 k9 (fun x => ?_) k11 k12
            by_cases e : x = 24
            · rw [if_pos e, if_pos e, f24]
              exact bits_add (by rw [ovrW, ← hM]; exact ho)
            · rw [if_neg e, if_neg e, k10 x, if_neg e]
        · refine W.exit ?_
          simp only [go_sem]
          have hi : i = M := by simp at hc2; omega
          have hfe : f = rwW g w a := by
            funext x
            rw [k10 x, hi, rwW, ← hM, ← hN]
          rw [hfe] at k5
          exact nx2 _ _ _ (by omega) k4 k5 k6 k7 k8 k9
      clear hK
      refine W.block (W.while (fun m t h n => ∃ (i : Nat) (f : Nat → Nat), m = M - i ∧ i ≤ M ∧ B < n ∧ h 0 = some (.cells [eGr g]) ∧ h B = some (.cells [eRw f]) ∧ SlL eRw 25 h 1 B (t 7) ((List.range a).map (rwW g w)) ∧ (t 1 = .ro (w.map eIn) ∧ t 2 = .ptr 0 0 0 ∧ t 5 = .ro (e3 M N N (spanF g w)) ∧ t 6 = .ro (e3 (2 * M) N N (spanF (wildG g) w))) ∧ t 8 = .int .i64 a ∧ t 9 = .ptr B 0 0 ∧ (∀ x, f x = if x < i then bitsN (endW g w a x) (N - a) else 0) ∧ t 10 = .int .i64 i) M
        ⟨0, fun _ => 0, rfl, by omega, by omega, by simp only [go_sem, z0, i4], by rw [hB]; simp only [go_sem, eR_d, List.append_nil], ?_, ⟨a1, a2, a5, a6⟩, i7, by rw [hB]; rfl, fun x => by rw [if_neg (by omega)], rfl⟩ fun m t h1 n1 ⟨i, f, k1, k2, k3, k4, k5, k6, k7, k8, k9, k10, k11⟩ => ?_)
      · exact i5.next rfl (fun x q q' => by simp only [go_sem, show ∀ j, ¬ x = n + j from fun j => by omega]) (by omega) (Nat.le_refl _)
      have k7' := k7
      obtain ⟨c1, c2, c5, c6⟩ := k7'
      refine W.seq ?_
      refine W.rseq (k := 4) rfl fun K hK => ?_
      simp only [go_sem, c2, k4, k11, ← hMi]
      refine hK _ _ _ ?_
      clear hK K
      refine W.cond rfl (fun hc2 => ?_) fun hc2 => ?_
      · refine W.skip ?_
        simp only [go_sem]
        have hi : i < M := by simp at hc2; omega
        refine W.seqk fun K hK => ?_
        have nx3 : ∀ (t' : Fr) (h' : Heap) (n' : Nat) (f : Nat → Nat), B < n' → h' 0 = some (.cells [eGr g]) → h' B = some (.cells [eRw f]) → SlL eRw 25 h' 1 B (t' 7) ((List.range a).map (rwW g w)) → (t' 1 = .ro (w.map eIn) ∧ t' 2 = .ptr 0 0 0 ∧ t' 5 = .ro (e3 M N N (spanF g w)) ∧ t' 6 = .ro (e3 (2 * M) N N (spanF (wildG g) w))) → t' 8 = .int .i64 a → t' 9 = .ptr B 0 0 → (∀ x, f x = if x < i then bitsN (endW g w a x) (N - a) else if x = i then bitsN (endW g w a i) (N - a) else 0) → t' 10 = .int .i64 i → K t' h' n' := by
          intro t' h' n' f q1 q2 q3 q4 q5 q6 q7 q8 q9
          refine hK _ _ _ ?_
          clear hK K
          refine W.region (k := 3) rfl ?_
          simp only [go_sem, q9]
          refine ⟨M - (i + 1), by omega, i + 1, f, rfl, by omega, by omega, q2, q3, q4, q5, q6, q7, fun x => ?_, ?_⟩
          · rw [q8 x]
            by_cases e : x < i
            · rw [if_pos e, if_pos (by omega)]
            · rw [if_neg e]
              by_cases e2 : x = i
              · rw [if_pos e2, if_pos (by omega), e2]
              · rw [if_neg e2, if_neg (by omega)]
          · rw [wrap64 (by omega) (by omega)]; rfl
        clear hK
        refine W.block ?_
        refine W.rseq (k := 1) rfl fun K hK => ?_
        simp only [go_sem]
        refine hK _ _ _ ?_
        clear hK K
        refine W.rseq (k := 2) rfl fun K hK => ?_
        simp only [go_sem, k8]
        refine hK _ _ _ ?_
        clear hK K
        refine W.block (W.while (fun m t h n => ∃ (c : Nat) (f : Nat → Nat), m = N - a - c ∧ c ≤ N - a ∧ B < n ∧ h 0 = some (.cells [eGr g]) ∧ h B = some (.cells [eRw f]) ∧ SlL eRw 25 h 1 B (t 7) ((List.range a).map (rwW g w)) ∧ (t 1 = .ro (w.map eIn) ∧ t 2 = .ptr 0 0 0 ∧ t 5 = .ro (e3 M N N (spanF g w)) ∧ t 6 = .ro (e3 (2 * M) N N (spanF (wildG g) w))) ∧ t 8 = .int .i64 a ∧ t 9 = .ptr B 0 0 ∧ (∀ x, f x = if x < i then bitsN (endW g w a x) (N - a) else if x = i then bitsN (endW g w a i) c else 0) ∧ t 10 = .int .i64 i ∧ t 11 = .int .u32 ((2 ^ c : Nat) : Int) ∧ t 12 = .int .i64 ((a + c : Nat) : Int)) (N - a)
          ⟨0, f, rfl, by omega, by omega, k4, k5, k6, k7, k8, k9, fun x => ?_, k11, rfl, rfl⟩ fun m t h2 n2 ⟨c, f, j1, j2, j3, j4, j5, j6, j7, j8, j9, j10, j11, j12, j13⟩ => ?_)
        · rw [k10 x]
          by_cases e : x < i
          · rw [if_pos e, if_pos e]
          · rw [if_neg e, if_neg e]
            by_cases e2 : x = i
            · rw [if_pos e2]; rfl
            · rw [if_neg e2]
        clear k4 k5 k6 k7 k8 k9 k10 k11 c1 c2 c5 c6
        have j7' := j7
        obtain ⟨c1, c2, c5, c6⟩ := j7'
        refine W.seq ?_
        refine W.rseq (k := 4) rfl fun K hK => ?_
        simp only [go_sem, c1, j13, List.length_map]
        refine hK _ _ _ ?_
        clear hK K
        refine W.cond rfl (fun hc3 => ?_) fun hc3 => ?_
        · refine W.skip ?_
          simp only [go_sem]
          have hb : a + c < N := by simp at hc3; omega
          have p30 : 2 ^ c ≤ 2 ^ 24 := Nat.pow_le_pow_right (by decide) (by omega)
          have hbl : bitsN (endW g w a i) c < 2 ^ c := bitsN_lt c
          have fi : f i = bitsN (endW g w a i) c := by rw [j10, if_neg (by omega), if_pos rfl]
          refine W.seqk fun K hK => ?_
          have nx4 : ∀ (t' : Fr) (h' : Heap) (n' : Nat) (f : Nat → Nat), B < n' → h' 0 = some (.cells [eGr g]) → h' B = some (.cells [eRw f]) → SlL eRw 25 h' 1 B (t' 7) ((List.range a).map (rwW g w)) → (t' 1 = .ro (w.map eIn) ∧ t' 2 = .ptr 0 0 0 ∧ t' 5 = .ro (e3 M N N (spanF g w)) ∧ t' 6 = .ro (e3 (2 * M) N N (spanF (wildG g) w))) → t' 8 = .int .i64 a → t' 9 = .ptr B 0 0 → (∀ x, f x = if x < i then bitsN (endW g w a x) (N - a) else if x = i then bitsN (endW g w a i) (c + 1) else 0) → t' 10 = .int .i64 i → t' 11 = .int .u32 ((2 ^ (c + 1) : Nat) : Int) → t' 12 = .int .i64 ((a + c : Nat) : Int) → K t' h' n' := by
            intro t' h' n' f q1 q2 q3 q4 q5 q6 q7 q8 q9 q10 q11
            refine hK _ _ _ ?_
            clear hK K
            refine W.region (k := 3) rfl ?_
            simp only [go_sem, q11]
            refine ⟨N - a - (c + 1), by omega, c + 1, f, rfl, by omega, by omega, q2, q3, q4, q5, q6, q7, q8, q9, q10, ?_⟩
            rw [wrap64 (by omega) (by omega)]; rfl
          clear hK
          have hdb : IntKind.wrap .u32 (2 * ((2 ^ c : Nat) : Int)) = ((2 ^ (c + 1) : Nat) : Int) := by rw [dbl_n32 (by omega), Nat.pow_succ, Nat.mul_comm]
          have hadd : IntKind.wrap .u32 (((f i : Nat) : Int) + ((2 ^ c : Nat) : Int)) = ((f i + 2 ^ c : Nat) : Int) := add_n32 (by rw [fi]; omega)
          refine W.block ?_
          refine W.seqk fun K hK => ?_
          refine W.rseq (k := 10) rfl fun K hK => ?_
          simp only [go_sem, c5, j8, j11, j13, e3_get (n := M) (m := N) (k := N) (f := spanF g w) hi, e2_get (m := N) (k := N) (f := spanF g w i) ha, e1_get (k := N) (f := spanF g w i a) hb]
          refine hK _ _ _ ?_
          clear hK K
          have nxb : ∀ (t' : Fr) (h' : Heap) (n' : Nat) (f : Nat → Nat), B < n' → h' 0 = some (.cells [eGr g]) → h' B = some (.cells [eRw f]) → SlL eRw 25 h' 1 B (t' 7) ((List.range a).map (rwW g w)) → (t' 1 = .ro (w.map eIn) ∧ t' 2 = .ptr 0 0 0 ∧ t' 5 = .ro (e3 M N N (spanF g w)) ∧ t' 6 = .ro (e3 (2 * M) N N (spanF (wildG g) w))) → t' 8 = .int .i64 a → t' 9 = .ptr B 0 0 → (∀ x, f x = if x < i then bitsN (endW g w a x) (N - a) else if x = i then bitsN (endW g w a i) (c + 1) else 0) → t' 10 = .int .i64 i → t' 11 = .int .u32 ((2 ^ c : Nat) : Int) → t' 12 = .int .i64 ((a + c : Nat) : Int) → K t' h' n' := by
            intro t' h' n' f q1 q2 q3 q4 q5 q6 q7 q8 q9 q10 q11
            refine hK _ _ _ ?_
            clear hK K
            refine W.region (k := 3) rfl ?_
            simp only [go_sem, q10, hdb]
            exact nx4 _ _ _ f (by omega) q2 q3 q4 q5 q6 q7 q8 q9 rfl q11
          clear hK
          cases ho : spanF g w i a (a + c)
          · refine W.condF (by simp only [go_sem, ho]) ?_
            refine W.skip ?_
            simp only [go_sem]
            refine nxb _ _ _ f (by omega) j4 j5 j6 j7 j8 j9 (fun x => ?_) j11 j12 j13
            rw [j10 x]
            by_cases e : x < i
            · rw [if_pos e, if_pos e]
            · rw [if_neg e, if_neg e]
              by_cases e2 : x = i
              · rw [if_pos e2, if_pos e2]
                exact bits_no ho
              · rw [if_neg e2, if_neg e2]
          · refine W.condT (by simp only [go_sem, ho]) ?_
            refine W.region (k := 10) rfl ?_
            simp only [go_sem, j9, j11, j5, j12, eR_len, eR_get (show i < 25 by omega), show (i : Int) < 24 by omega, hadd, Nat.mul_one, show i + 1 ≤ 25 by omega, eR_over (show i < 25 by omega)]
            refine nxb _ _ _ (fun x => if x = i then f i + 2 ^ c else f x) (by omega) (by simp only [go_sem, j4, show ¬ 0 = B by omega]) (by simp only [go_sem]) (j6.next rfl (fun x q q' => by simp only [go_sem, show ¬ x = B by omega]) (by omega) (Nat.le_refl _)) j7 j8 j9 (fun x => ?_) j11 j12 j13
            by_cases e2 : x = i
            · rw [if_pos e2, if_neg (by omega), if_pos e2, fi]
              exact bits_add ho
            · rw [if_neg e2, j10 x, if_neg e2, if_neg e2]
        · refine W.exit ?_
          simp only [go_sem]
          have hcN : c = N - a := by simp at hc3; omega
          rw [hcN] at j10
          exact nx3 _ _ _ f (by omega) j4 j5 j6 j7 j8 j9 j10 j11
      · refine W.exit ?_
        simp only [go_sem]
        have hi : i = M := by simp at hc2; omega
        rw [hi] at k10
        exact nx1 _ _ _ f (by omega) k4 k5 k6 k7 k8 k9 k10
    · refine W.exit ?_
      simp only [go_sem]
      have ha : a = N := by simp at hc; omega
      subst ha
      rw [hN] at i5
      exact nx0 _ _ _ (i5.next rfl (fun x _ _ => rfl) (by omega) (Nat.le_refl _))
  obtain ⟨r, h', n', hb, ho⟩ := fin
  exact ⟨_, h', n', hb, 5, fun fr => ho.frz (d := 3) fun x _ => rfs_rw⟩

end Go.Av

