/-
  Layer 17: productions of a nonterminal, in the document's answer; may derivations be long? Conditions: none.
-/
import Derived.Test.YtiiogleijmcccaaZ7
namespace Go.Av
open Go.Proofs
set_option maxRecDepth 100000
set_option linter.unusedSimpArgs false
set_option linter.unusedVariables false

set_option maxHeartbeats 8000000 in
theorem f112 (g : Gr) (x : Int) (hp : g.prods.length < 2 ^ 40) : FH pg Tq 112 [.agg (eGr g), .int .i64 x] h0 0 fun r h n => SlL eIn 1 h 0 n r (prodsL g x) := by
  refine FH.of (N := 28) (rs := #[.tmp 4]) Try.func112 rfl rfl (of_decide_eq_true rfl) rfl (by decide) ?_
  refine W.rseq (k := 2) rfl fun K hK => ?_
  simp only [go_sem]
  refine hK _ _ _ ?_
  clear hK K
  refine W.rseq (k := 2) rfl fun K hK => ?_
  simp only [go_sem]
  refine hK _ _ _ ?_
  clear hK K
  refine W.seqk fun K hK => ?_
  refine W.rseq (k := 1) rfl fun K hK => ?_
  simp only [go_sem]
  refine hK _ _ _ ?_
  clear hK K
  have nx0 : ∀ (t' : Fr) (h' : Heap) (n' : Nat), SlL eIn 1 h' 1 n' (t' 5) (prodsL g x) → K t' h' n' := by
    intro t' h' n' e1
    refine hK _ _ _ ?_
    clear hK K
    refine W.rseq (k := 2) rfl fun K hK => ?_
    simp only [go_sem]
    refine hK _ _ _ ?_
    clear hK K
    refine W.ret ?_
    simp only [go_sem]
    exact e1.next rfl (fun x hx hx' => rfl) (by omega) (by omega)
  clear hK
  refine W.block (W.while (fun m t h n => ∃ j : Nat, m = g.prods.length - j ∧ j ≤ g.prods.length ∧ 0 < n ∧ h 0 = some (.cells [eGr g]) ∧ SlL eIn 1 h 1 n (t 5) (prodsJ g x j) ∧ (t 1 = .int .i64 x ∧ t 2 = .ptr 0 0 0) ∧ t 6 = .int .i64 j) g.prods.length
    ⟨0, by simp, by omega, by omega, by simp only [go_sem], .inl ⟨rfl, rfl⟩, ⟨rfl, rfl⟩, rfl⟩ fun m t h n ⟨j, i1, i2, i3, i4, i5, i6, i7⟩ => ?_)
  have i6' := i6
  obtain ⟨a1, a2⟩ := i6'
  refine W.seq ?_
  refine W.rseq (k := 5) rfl fun K hK => ?_
  simp only [go_sem, a2, i4, i7]
  refine hK _ _ _ ?_
  clear hK K
  refine W.cond rfl (fun hc => ?_) fun hc => ?_
  · refine W.skip ?_
    simp only [go_sem]
    have hj : j < g.prods.length := by simp at hc; omega
    obtain ⟨p, hpj⟩ := get_some hj
    have z0 : ∀ j, ¬ 0 = n + j := fun j => by omega
    refine W.seqk fun K hK => ?_
    have nx : ∀ (t' : Fr) (h' : Heap) (n' : Nat), 0 < n' → h' 0 = some (.cells [eGr g]) → SlL eIn 1 h' 1 n' (t' 5) (prodsJ g x (j + 1)) → (t' 1 = .int .i64 x ∧ t' 2 = .ptr 0 0 0) → t' 6 = .int .i64 j → K t' h' n' := by
      intro t' h' n' e1 e2 e3 e4 e5
      refine hK _ _ _ ?_
      clear hK K
      refine W.region (k := 3) rfl ?_
      simp only [go_sem, e5]
      refine ⟨g.prods.length - (j + 1), by omega, j + 1, rfl, by omega, by omega, e2, e3.next rfl (fun x _ _ => rfl) (by omega) (Nat.le_refl _), e4, ?_⟩
      rw [wrap64 (by omega) (by omega)]; rfl
    clear hK
    refine W.block ?_
    refine W.rseq (k := 8) rfl fun K hK => ?_
    simp only [go_sem, a1, a2, i4, i7, hpj, z0]
    refine hK _ _ _ ?_
    clear hK K
    by_cases hl : p.left = x
    · have hof : prodsJ g x (j + 1) = prodsJ g x j ++ [(j : Int)] := by rw [prodsJ, if_pos (by rw [hpj, ← hl]; rfl)]
      rw [hof] at nx
      refine W.condT (by simp only [go_sem, decide_eq_true hl]) ?_
      refine W.region (k := 5) rfl ?_
      have hlen := prodsJ_len (g := g) (x := x) j
      rcases i5 with ⟨w0, w5⟩ | ⟨b, w5, w1, w2, w3⟩
      · simp only [go_sem, w5, i7, if_true, Nat.one_mul, show (n + 13 ≤ n + 15) = True from eq_true (by omega)]
        exact nx _ _ _ (by omega) (by simp only [go_sem, z0, i4]) (.inr ⟨n + 16, by rw [w0]; rfl, by omega, by omega, by rw [w0]; simp only [go_sem]; rfl⟩) i6 i7
      · have zb : ∀ j, ¬ b = n + j := fun j => by omega
        have tkL : ((prodsJ g x j).map eIn).take (prodsJ g x j).length = (prodsJ g x j).map eIn := List.take_of_length_le (by simp)
        simp only [go_sem, w5, w3, i7, zb, tkL, List.length_map, and_false, if_false, if_true, show ((prodsJ g x j).length + 1) * 8 ≤ 140737488355328 by omega, show (n + 13 ≤ b) = False from eq_false (by omega)]
        exact nx _ _ _ (by omega) (by simp only [go_sem, z0, i4, show ¬ 0 = b by omega]) (.inr ⟨n + 16, by rw [List.length_append]; rfl, by omega, by omega, by simp only [go_sem]; rw [List.map_append]; rfl⟩) i6 i7
    · have hof : prodsJ g x (j + 1) = prodsJ g x j := by rw [prodsJ, if_neg (by rw [hpj]; intro e; exact hl (by injection e))]
      rw [hof] at nx
      refine W.condF (by simp only [go_sem, decide_eq_false hl]) ?_
      refine W.skip ?_
      simp only [go_sem]
      exact nx _ _ _ (by omega) (by simp only [go_sem, z0, i4]) (i5.next rfl (fun x hx hx' => by simp only [go_sem, show ∀ j, ¬ x = n + j from fun j => by omega]) (by omega) (Nat.le_refl _)) i6 i7
  · refine W.exit ?_
    simp only [go_sem]
    have hj : j = g.prods.length := by simp at hc; omega
    rw [hj] at i5
    exact nx0 _ _ _ (i5.next rfl (fun x _ _ => rfl) (by omega) (Nat.le_refl _))

theorem f112' (g : Gr) (x : Int) (hp : g.prods.length < 2 ^ 40) (hne : prodsL g x ≠ []) : PT pg Tq 112 [.agg (eGr g), .int .i64 x] 1 ((prodsL g x).map eIn) := by
  obtain ⟨r, h', n', hb, ho⟩ := f112 g x hp
  rcases ho with ⟨e, _⟩ | ⟨b, rfl, h1, h2, h3⟩
  · exact absurd e hne
  · exact ⟨_, h', n', hb, b, by rw [List.length_map], _, h3, rfl, 5, fun fr => rfe_map fun x _ => by simp [rfs, rf, eIn]⟩

/-- Sizes that may be. -/
def SzIn (S : List Int) : Prop := ∀ v ∈ S, 0 ≤ v ∧ v ≤ 200

theorem SzIn.set {S : List Int} (h : SzIn S) {i : Nat} {v : Int} (hv : 0 ≤ v ∧ v ≤ 200) : SzIn (S.set i v) := fun x hx => by
  rcases List.mem_or_eq_of_mem_set hx with h' | rfl
  · exact h x h'
  · exact hv

set_option maxHeartbeats 16000000 in
theorem f80 (g : Gr) (hg : g.Small) (hG : GoodG g) : ∃ b, PF pg Tq 80 [.agg (eGr g)] (.bool b) := by
  have h31 : PF pg Tq 31 [.agg (eGr g), .bool true] (.ro ((ranksL g true).map eFc)) := by
    have := OwnFc.pf (f31 g hg true)
    rwa [← ranks_same] at this
  have hlen := (ranks_fin (terms := true) hG.right).1
  obtain ⟨⟨hn1, hn2⟩, _, _, hp60, h5⟩ := right_in hG.right
  have hfact := hG.fact
  obtain ⟨l, hl⟩ : ∃ l, l = ranksL g true := ⟨_, rfl⟩
  rw [← hl] at h31 hlen hfact
  have fin : FH pg Tq 80 [.agg (eGr g)] h0 0 fun r h n => ∃ b, r = .bool b := by
    refine FH.of (N := 69) (rs := #[.tmp 2]) Try.func80 rfl rfl (of_decide_eq_true rfl) rfl (by decide) ?_
    refine W.rseq (k := 2) rfl fun K hK => ?_
    simp only [go_sem]
    refine hK _ _ _ ?_
    clear hK K
    refine W.rseq (k := 3) rfl fun K hK => ?_
    simp only [go_sem]
    refine VCall.frz 6 h31 rfl ?_
    try simp only [go_sem]
    refine hK _ _ _ ?_
    clear hK K
    refine W.rseq (k := 4) rfl fun K hK => ?_
    simp only [go_sem, List.length_map, show (l.length : Int) * 8 ≤ 140737488355328 by omega]
    refine hK _ _ _ ?_
    clear hK K
    obtain ⟨B, hB⟩ : ∃ B, B = 7 := ⟨_, rfl⟩
    have hB0 : ¬ 0 = B := by omega
    refine W.seqk fun K hK => ?_
    refine W.rseq (k := 3) rfl fun K hK => ?_
    simp only [go_sem, List.length_map]
    refine hK _ _ _ ?_
    clear hK K
    have nx0 : ∀ (t' : Fr) (h' : Heap) (n' : Nat) (S : List Int), B < n' → h' 0 = some (.cells [eGr g]) → h' B = some (.cells (S.map eIn)) → S.length = l.length → SzIn S → (t' 1 = .ptr 0 0 0 ∧ t' 3 = .ro (l.map eFc) ∧ t' 4 = .sl B 0 l.length 1) → K t' h' n' := by
      intro t' h' n' S e0 e1 e2 e3 e4 e5
      refine hK _ _ _ ?_
      clear hK K
      obtain ⟨a1, a3, a4⟩ := e5
      refine W.seqk fun K hK => ?_
      refine W.rseq (k := 3) rfl fun K hK => ?_
      simp only [go_sem, a4]
      refine hK _ _ _ ?_
      clear hK K
      have nxE : ∀ (t' : Fr) (h' : Heap) (n' : Nat), K t' h' n' := by
        intro t' h' n'
        refine hK _ _ _ ?_
        clear hK K
        refine W.rseq (k := 1) rfl fun K hK => ?_
        simp only [go_sem]
        refine hK _ _ _ ?_
        clear hK K
        refine W.ret ?_
        simp only [go_sem]
        exact ⟨_, rfl⟩
      clear hK
      refine W.block (W.while (fun m t h2 n2 => ∃ j : Nat, m = l.length - j ∧ j ≤ l.length ∧ h2 B = some (.cells (S.map eIn)) ∧ (t 60 = .sl B 0 l.length 1 ∧ t 61 = .int .i64 l.length) ∧ t 62 = .int .i64 j) l.length
        ⟨0, by simp, by omega, e2, ⟨rfl, rfl⟩, rfl⟩ fun m t h2 n2 ⟨j, i1, i2, i3, i4, i5⟩ => ?_)
      have i4' := i4
      obtain ⟨c60, c61⟩ := i4'
      refine W.rseq (k := 1) rfl fun K hK => ?_
      simp only [go_sem, c61, i5]
      refine hK _ _ _ ?_
      clear hK K
      refine W.seq ?_
      refine W.cond rfl (fun hc => ?_) fun hc => ?_
      · refine W.skip ?_
        simp only [go_sem]
        have hj : j < l.length := by simp at hc; omega
        obtain ⟨v, hv⟩ := get_some (show j < S.length by omega)
        have hmv : (S.map eIn)[j]? = some [.int .i64 v] := by rw [List.getElem?_map, hv]; rfl
        refine W.seqk fun K hK => ?_
        have nx : ∀ (t' : Fr) (h' : Heap) (n' : Nat), h' B = some (.cells (S.map eIn)) → (t' 60 = .sl B 0 l.length 1 ∧ t' 61 = .int .i64 l.length) → t' 62 = .int .i64 j → K t' h' n' := by
          intro t' h' n' q1 q2 q3
          refine hK _ _ _ ?_
          clear hK K
          refine W.region (k := 2) rfl ?_
          simp only [go_sem, q3]
          refine ⟨l.length - (j + 1), by omega, j + 1, rfl, by omega, q1, q2, ?_⟩
          rw [wrap64 (by omega) (by omega)]; rfl
        clear hK
        refine W.block ?_
        refine W.rseq (k := 3) rfl fun K hK => ?_
        simp only [go_sem, c60, i5, i3, hmv, show (j : Int) < (l.length : Int) by omega]
        refine hK _ _ _ ?_
        clear hK K
        by_cases hv20 : v > 20
        · refine W.rseq (k := 2) rfl fun K hK => ?_
          simp only [go_sem, decide_eq_true hv20]
          refine hK _ _ _ ?_
          clear hK K
          refine W.condT (by simp only [go_sem]) ?_
          refine W.rseq (k := 1) rfl fun K hK => ?_
          simp only [go_sem]
          refine hK _ _ _ ?_
          clear hK K
          refine W.ret ?_
          simp only [go_sem]
          exact ⟨_, rfl⟩
        · refine W.rseq (k := 2) rfl fun K hK => ?_
          simp only [go_sem, decide_eq_false hv20]
          refine hK _ _ _ ?_
          clear hK K
          refine W.condF (by simp only [go_sem]) ?_
          refine W.skip ?_
          simp only [go_sem]
          exact nx _ _ _ i3 i4 i5
      · refine W.exit ?_
        simp only [go_sem]
        exact nxE _ _ _
    clear hK
    refine W.block (W.while (fun m t h2 n2 => ∃ (k : Nat) (S : List Int), m = l.length - k ∧ k ≤ l.length ∧ B < n2 ∧ h2 0 = some (.cells [eGr g]) ∧ h2 B = some (.cells (S.map eIn)) ∧ S.length = l.length ∧ SzIn S ∧ (t 1 = .ptr 0 0 0 ∧ t 3 = .ro (l.map eFc) ∧ t 4 = .sl B 0 l.length 1) ∧ t 18 = .int .i64 l.length ∧ t 19 = .int .i64 k) l.length
      ⟨0, List.replicate l.length 0, by simp, by omega, by omega, by simp only [go_sem], by rw [hB]; simp [upd, eIn], by simp, fun v hv => by rw [List.eq_of_mem_replicate hv]; decide, ⟨rfl, rfl, by rw [hB]; rfl⟩, rfl, rfl⟩ fun m t h n ⟨k, S, i1, i2, i0, i3, i4, i5, i6, i7, i8, i9⟩ => ?_)
    have i7' := i7
    obtain ⟨a1, a3, a4⟩ := i7'
    refine W.rseq (k := 1) rfl fun K hK => ?_
    simp only [go_sem, i8, i9]
    refine hK _ _ _ ?_
    clear hK K
    refine W.seq ?_
    refine W.cond rfl (fun hc => ?_) fun hc => ?_
    · refine W.skip ?_
      simp only [go_sem]
      have hk : k < l.length := by simp at hc; omega
      refine W.seqk fun K hK => ?_
      have nx : ∀ (t' : Fr) (h' : Heap) (n' : Nat) (S : List Int), B < n' → h' 0 = some (.cells [eGr g]) → h' B = some (.cells (S.map eIn)) → S.length = l.length → SzIn S → (t' 1 = .ptr 0 0 0 ∧ t' 3 = .ro (l.map eFc) ∧ t' 4 = .sl B 0 l.length 1) → t' 18 = .int .i64 l.length → t' 19 = .int .i64 k → K t' h' n' := by
        intro t' h' n' S q0 q1 q2 q3 q4 q5 q6 q7
        refine hK _ _ _ ?_
        clear hK K
        refine W.region (k := 2) rfl ?_
        simp only [go_sem, q7]
        refine ⟨l.length - (k + 1), by omega, k + 1, S, rfl, by omega, by omega, q1, q2, q3, q4, q5, q6, ?_⟩
        rw [wrap64 (by omega) (by omega)]; rfl
      clear hK nx0
      refine W.block ?_
      refine W.rseq (k := 3) rfl fun K hK => ?_
      simp only [go_sem, a3, List.length_map]
      refine hK _ _ _ ?_
      clear hK K
      refine W.block (W.while (fun m t h2 n2 => ∃ (j : Nat) (S : List Int), m = l.length - j ∧ j ≤ l.length ∧ B < n2 ∧ h2 0 = some (.cells [eGr g]) ∧ h2 B = some (.cells (S.map eIn)) ∧ S.length = l.length ∧ SzIn S ∧ (t 1 = .ptr 0 0 0 ∧ t 3 = .ro (l.map eFc) ∧ t 4 = .sl B 0 l.length 1) ∧ t 18 = .int .i64 l.length ∧ t 19 = .int .i64 k ∧ (t 21 = .ro (l.map eFc) ∧ t 22 = .int .i64 l.length) ∧ t 23 = .int .i64 j) l.length
        ⟨0, S, by simp, by omega, by omega, i3, i4, i5, i6, i7, i8, i9, ⟨rfl, rfl⟩, rfl⟩ fun m t h n ⟨j, S, j1, j2, j0, j3, j4, j5, j6, j7, j8, j9, j10, j11⟩ => ?_)
      clear a1 a3 a4 i3 i4 i5 i6
      have j7' := j7
      obtain ⟨a1, a3, a4⟩ := j7'
      have j10' := j10
      obtain ⟨a21, a22⟩ := j10'
      refine W.rseq (k := 1) rfl fun K hK => ?_
      simp only [go_sem, a22, j11]
      refine hK _ _ _ ?_
      clear hK K
      refine W.seq ?_
      refine W.cond rfl (fun hc2 => ?_) fun hc2 => ?_
      · refine W.skip ?_
        simp only [go_sem]
        have hj : j < l.length := by simp at hc2; omega
        obtain ⟨fc, hfc⟩ := get_some hj
        obtain ⟨ip, hip, hipl, p, hp, _⟩ := hfact j (by omega) (by omega)
        rw [Int.toNat_natCast, List.getD_eq_getElem?_getD, hfc] at hip
        have hip : fc.2 = (ip : Int) := hip
        have hpm := h5 p (List.mem_of_getElem? hp)
        have z0 : ∀ j, ¬ 0 = n + j := fun j => by omega
        have zB : ∀ j, ¬ B = n + j := fun j => by omega
        refine W.seqk fun K hK => ?_
        have nx2 : ∀ (t' : Fr) (h' : Heap) (n' : Nat) (S : List Int), B < n' → h' 0 = some (.cells [eGr g]) → h' B = some (.cells (S.map eIn)) → S.length = l.length → SzIn S → (t' 1 = .ptr 0 0 0 ∧ t' 3 = .ro (l.map eFc) ∧ t' 4 = .sl B 0 l.length 1) → t' 18 = .int .i64 l.length → t' 19 = .int .i64 k → (t' 21 = .ro (l.map eFc) ∧ t' 22 = .int .i64 l.length) → t' 23 = .int .i64 j → K t' h' n' := by
          intro t' h' n' S q0 q1 q2 q3 q4 q5 q6 q7 q8 q9
          refine hK _ _ _ ?_
          clear hK K
          refine W.region (k := 2) rfl ?_
          simp only [go_sem, q9]
          refine ⟨l.length - (j + 1), by omega, j + 1, S, rfl, by omega, by omega, q1, q2, q3, q4, q5, q6, q7, q8, ?_⟩
          rw [wrap64 (by omega) (by omega)]; rfl
        clear hK nx
        refine W.block ?_
        refine W.rseq (k := 6) rfl fun K hK => ?_
        simp only [go_sem, a21, j11, hfc]
        refine hK _ _ _ ?_
        clear hK K
        refine W.seq ?_
        by_cases hz : fc.1 = 0
        · refine W.rseq (k := 3) rfl fun K hK => ?_
          simp only [go_sem, decide_eq_true hz]
          refine hK _ _ _ ?_
          clear hK K
          refine W.condT (by simp only [go_sem]) ?_
          refine W.rseq (k := 1) rfl fun K hK => ?_
          simp only [go_sem]
          refine hK _ _ _ ?_
          clear hK K
          refine W.ret ?_
          simp only [go_sem]
          exact ⟨_, rfl⟩
        refine W.rseq (k := 3) rfl fun K hK => ?_
        simp only [go_sem, decide_eq_false hz]
        refine hK _ _ _ ?_
        clear hK K
        refine W.condF (by simp only [go_sem]) ?_
        refine W.skip ?_
        simp only [go_sem]
        refine W.rseq (k := 1) rfl fun K hK => ?_
        simp only [go_sem]
        refine hK _ _ _ ?_
        clear hK K
        refine W.seqk fun K hK => ?_
        refine W.rseq (k := 9) rfl fun K hK => ?_
        simp only [go_sem, a1, j3, z0, hip, hp, List.length_map]
        refine hK _ _ _ ?_
        clear hK K
        have nx3 : ∀ (t' : Fr) (h' : Heap) (n' : Nat) (S : List Int) (v : Int), B < n' → h' 0 = some (.cells [eGr g]) → h' B = some (.cells (S.map eIn)) → S.length = l.length → SzIn S → (t' 1 = .ptr 0 0 0 ∧ t' 3 = .ro (l.map eFc) ∧ t' 4 = .sl B 0 l.length 1) → t' 18 = .int .i64 l.length → t' 19 = .int .i64 k → (t' 21 = .ro (l.map eFc) ∧ t' 22 = .int .i64 l.length) → t' 23 = .int .i64 j → t' 5 = .int .i64 j → t' 7 = .int .i64 v → (0 ≤ v ∧ v ≤ 200) → K t' h' n' := by
          intro t' h' n' S v q0 q1 q2 q3 q4 q5 q6 q7 q8 q9 q10 q11 q12
          refine hK _ _ _ ?_
          clear hK K
          obtain ⟨c1, c3, c4⟩ := q5
          obtain ⟨u, hu⟩ := get_some (show j < S.length by omega)
          have hmu : (S.map eIn)[j]? = some [.int .i64 u] := by rw [List.getElem?_map, hu]; rfl
          refine W.region (k := 5) rfl ?_
          simp only [go_sem, c4, q10, q11, q2, hmu, show (j : Int) < (l.length : Int) by omega]
          refine nx2 _ _ _ (S.set j v) (by omega) (by simp only [go_sem, hB0, q1]) (by simp only [go_sem, List.map_set]) (by rw [List.length_set]; exact q3) (q4.set q12) ⟨c1, c3, c4⟩ q6 q7 q8 q9
        clear hK nx2
        refine W.block (W.while (fun m t h2 n2 => ∃ (q : Nat) (v : Int), m = p.right.length - q ∧ q ≤ p.right.length ∧ B < n2 ∧ h2 0 = some (.cells [eGr g]) ∧ h2 B = some (.cells (S.map eIn)) ∧ S.length = l.length ∧ SzIn S ∧ (t 1 = .ptr 0 0 0 ∧ t 3 = .ro (l.map eFc) ∧ t 4 = .sl B 0 l.length 1) ∧ t 18 = .int .i64 l.length ∧ t 19 = .int .i64 k ∧ (t 21 = .ro (l.map eFc) ∧ t 22 = .int .i64 l.length) ∧ t 23 = .int .i64 j ∧ t 5 = .int .i64 j ∧ t 7 = .int .i64 v ∧ (0 ≤ v ∧ v ≤ 200) ∧ (t 37 = .ro (p.right.map eSy) ∧ t 38 = .int .i64 p.right.length) ∧ t 39 = .int .i64 q) p.right.length
          ⟨0, 1, by simp, by omega, by omega, by simp only [go_sem, z0, j3], by simp only [go_sem, zB, j4], j5, j6, j7, j8, j9, j10, j11, rfl, rfl, by decide, ⟨rfl, rfl⟩, rfl⟩ fun m t h n ⟨q, v, k1, k2, k0, k3, k4, k5, k6, k7, k8, k9, k10, k11, k12, k13, k14, k15, k16⟩ => ?_)
        clear a1 a3 a4 a21 a22 z0 zB
        have k7' := k7
        obtain ⟨a1, a3, a4⟩ := k7'
        obtain ⟨a37, a38⟩ := k15
        refine W.rseq (k := 1) rfl fun K hK => ?_
        simp only [go_sem, a38, k16]
        refine hK _ _ _ ?_
        clear hK K
        refine W.seq ?_
        refine W.cond rfl (fun hc3 => ?_) fun hc3 => ?_
        · refine W.skip ?_
          simp only [go_sem]
          have hq : q < p.right.length := by simp at hc3; omega
          obtain ⟨s, hs⟩ := get_some hq
          have hsm := hpm.2.2 s (List.mem_of_getElem? hs)
          have z0 : ∀ j, ¬ 0 = n + j := fun j => by omega
          have zB : ∀ j, ¬ B = n + j := fun j => by omega
          refine W.seqk fun K hK => ?_
          have nx4 : ∀ (t' : Fr) (h' : Heap) (n' : Nat) (v : Int), B < n' → h' 0 = some (.cells [eGr g]) → h' B = some (.cells (S.map eIn)) → S.length = l.length → SzIn S → (t' 1 = .ptr 0 0 0 ∧ t' 3 = .ro (l.map eFc) ∧ t' 4 = .sl B 0 l.length 1) → t' 18 = .int .i64 l.length → t' 19 = .int .i64 k → (t' 21 = .ro (l.map eFc) ∧ t' 22 = .int .i64 l.length) → t' 23 = .int .i64 j → t' 5 = .int .i64 j → t' 7 = .int .i64 v → (0 ≤ v ∧ v ≤ 200) → (t' 37 = .ro (p.right.map eSy) ∧ t' 38 = .int .i64 p.right.length) → t' 39 = .int .i64 q → K t' h' n' := by
            intro t' h' n' v q0 q1 q2 q3 q4 q5 q6 q7 q8 q9 q10 q11 q12 q13 q14
            refine hK _ _ _ ?_
            clear hK K
            refine W.region (k := 2) rfl ?_
            simp only [go_sem, q14]
            refine ⟨p.right.length - (q + 1), by omega, q + 1, v, rfl, by omega, by omega, q1, q2, q3, q4, q5, q6, q7, q8, q9, q10, q11, q12, q13, ?_⟩
            rw [wrap64 (by omega) (by omega)]; rfl
          clear hK nx3
          refine W.block ?_
          refine W.rseq (k := 4) rfl fun K hK => ?_
          simp only [go_sem, a37, k16, hs]
          refine hK _ _ _ ?_
          clear hK K
          cases hn : s.non
          · refine W.rseq (k := 2) rfl fun K hK => ?_
            simp only [go_sem, hn]
            refine hK _ _ _ ?_
            clear hK K
            refine W.condF (by simp only [go_sem]) ?_
            refine W.skip ?_
            simp only [go_sem]
            exact nx4 _ _ _ v (by omega) (by simp only [go_sem, z0, k3]) (by simp only [go_sem, zB, k4]) k5 k6 k7 k8 k9 k10 k11 k12 k13 k14 ⟨a37, a38⟩ k16
          · rw [if_pos hn] at hsm
            obtain ⟨ν, hν⟩ : ∃ ν : Nat, s.n = ν := ⟨s.n.toNat, by omega⟩
            obtain ⟨u, hu⟩ := get_some (show ν < S.length by omega)
            have hmu : (S.map eIn)[ν]? = some [.int .i64 u] := by rw [List.getElem?_map, hu]; rfl
            have hu2 := k6 u (List.mem_of_getElem? hu)
            have hwv : IntKind.wrap .i64 (v + u) = v + u := wrap64 (by omega) (by omega)
            refine W.rseq (k := 2) rfl fun K hK => ?_
            simp only [go_sem, hn]
            refine hK _ _ _ ?_
            clear hK K
            refine W.condT (by simp only [go_sem]) ?_
            refine W.region (k := 9) rfl ?_
            simp only [go_sem, k13, a4, zB, k4, hν, hmu, hwv, show (ν : Int) < (l.length : Int) by omega]
            refine nx4 _ _ _ (if 200 < v + u then 200 else v + u) (by omega) (by simp only [go_sem, z0, k3]) (by simp only [go_sem, zB, k4]) k5 k6 k7 k8 k9 k10 k11 k12 rfl ?_ ⟨a37, a38⟩ k16
            split <;> omega
        · refine W.exit ?_
          simp only [go_sem]
          exact nx3 _ _ _ S v (by omega) k3 k4 k5 k6 k7 k8 k9 k10 k11 k12 k13 k14
      · refine W.exit ?_
        simp only [go_sem]
        exact nx _ _ _ S (by omega) j3 j4 j5 j6 j7 j8 j9
    · refine W.exit ?_
      simp only [go_sem]
      exact nx0 _ _ _ S (by omega) i3 i4 i5 i6 i7
  obtain ⟨r, h', n', hb, b, rfl⟩ := fin
  exact ⟨b, _, h', n', hb, 1, fun _ => rfl⟩

end Go.Av

