/-
  Layer 16: what comes of a production; a row. Conditions: none.
-/
import Derived.Test.YtiiogleijmcccaaX2
namespace Go.Av
open Go.Proofs
set_option maxRecDepth 100000
set_option linter.unusedSimpArgs false
set_option linter.unusedVariables false

def comesL (w : List Int) (rows : List (Nat → Nat)) : List Sy → Nat → Bool → Nat × Bool
  | [], k, more => (k, more)
  | s :: r, k, more => comesL w rows r (stepF s k w rows) ((more || overB s k rows) || (stepF s k w rows).testBit w.length)

def comesF (w : List Int) (rows : List (Nat → Nat)) (p : Pr) : Nat × Bool := comesL w rows p.right 1 (decide (w.length = 0))

theorem stepF_lt {s : Sy} {frm : Nat} {w : List Int} {rows : List (Nat → Nat)} (h : rows.length ≤ 31) : stepF s frm w rows < 2 ^ 32 := stepN_lt _ h

set_option maxHeartbeats 8000000 in
theorem f110 (p : Pr) (w : List Int) (hw : w.length ≤ 30) (rows : List (Nat → Nat)) (hr : rows.length ≤ 31) (hrw : RwIn rows) (hl : p.right.length < 2 ^ 40) (hs : ∀ s ∈ p.right, s.non = true → 0 ≤ s.n ∧ s.n < 24) :
    PF pg Tq 110 [.agg (ePr p), .ro (w.map eIn), .ro (rows.map eRw)] (.tup [.int .u32 ((comesF w rows p).1 : Nat), .bool (comesF w rows p).2]) := by
  have fin : FH pg Tq 110 [.agg (ePr p), .ro (w.map eIn), .ro (rows.map eRw)] h0 0 fun r _ _ => r = .tup [.int .u32 ((comesF w rows p).1 : Nat), .bool (comesF w rows p).2] := by
    refine FH.of (N := 46) (rs := #[.tmp 6, .tmp 7]) Try.func110 rfl rfl (of_decide_eq_true rfl) rfl (by decide) ?_
    refine W.rseq (k := 3) rfl fun K hK => ?_
    simp only [go_sem]
    refine hK _ _ _ ?_
    clear hK K
    refine W.rseq (k := 5) rfl fun K hK => ?_
    simp only [go_sem]
    refine hK _ _ _ ?_
    clear hK K
    refine W.seq ?_
    refine W.rseq (k := 4) rfl fun K hK => ?_
    simp only [go_sem]
    refine hK _ _ _ ?_
    clear hK K
    refine W.block (W.while (fun m t h n => ∃ (j k : Nat) (more : Bool), m = p.right.length - j ∧ j ≤ p.right.length ∧ 0 < n ∧ k < 2 ^ 32 ∧ comesL w rows (p.right.drop j) k more = comesF w rows p ∧ (t 1 = .ro (w.map eIn) ∧ t 2 = .ro (rows.map eRw) ∧ t 16 = .ro (p.right.map eSy) ∧ t 17 = .int .i64 p.right.length) ∧ t 8 = .int .u32 k ∧ t 9 = .bool more ∧ t 18 = .int .i64 j) p.right.length
      ⟨0, 1, decide (w.length = 0), by simp, by simp, by omega, by decide, rfl, ⟨rfl, rfl, rfl, by simp only [go_sem]⟩, rfl, ?_, rfl⟩ fun m t h n ⟨j, k, more, i1, i2, i3, i4, i5, i6, i7, i8, i9⟩ => ?_)
    · simp only [go_sem]
      exact congrArg AV.bool (decide_eq_decide.2 (by omega))
    have i6' := i6
    obtain ⟨a1, a2, a16, a17⟩ := i6'
    refine W.rseq (k := 1) rfl fun K hK => ?_
    simp only [go_sem, a17, i9]
    refine hK _ _ _ ?_
    clear hK K
    refine W.seq ?_
    refine W.cond rfl (fun hc => ?_) fun hc => ?_
    · refine W.skip ?_
      simp only [go_sem]
      have hj : j < p.right.length := by simp at hc; omega
      obtain ⟨s, hsj⟩ := get_some hj
      have hsd : p.right.drop j = s :: p.right.drop (j + 1) := by
        rw [List.drop_eq_getElem_cons hj]
        congr 1
        exact (List.getElem_eq_iff hj).2 hsj
      have hsm := hs s (List.mem_of_getElem? hsj)
      rw [hsd, comesL] at i5
      obtain ⟨k2, hk2⟩ : ∃ k2, k2 = stepF s k w rows := ⟨_, rfl⟩
      have hk2l : k2 < 2 ^ 32 := by rw [hk2]; exact stepF_lt hr
      have h134 := f134 s k i4 rows hr hrw hsm
      have h135 := f135 s k i4 w hw rows hr hrw hsm
      rw [← hk2] at i5 h135
      refine W.seqk fun K hK => ?_
      have nx : ∀ (t' : Fr) (h' : Heap) (n' : Nat), 0 < n' → (t' 1 = .ro (w.map eIn) ∧ t' 2 = .ro (rows.map eRw) ∧ t' 16 = .ro (p.right.map eSy) ∧ t' 17 = .int .i64 p.right.length) → t' 8 = .int .u32 k2 → t' 9 = .bool ((more || overB s k rows) || k2.testBit w.length) → t' 18 = .int .i64 j → K t' h' n' := by
        intro t' h' n' e1 e2 e3 e4 e5
        refine hK _ _ _ ?_
        clear hK K
        refine W.region (k := 2) rfl ?_
        simp only [go_sem, e5]
        refine ⟨p.right.length - (j + 1), by omega, j + 1, k2, _, rfl, by omega, by omega, hk2l, i5, e2, e3, e4, ?_⟩
        rw [wrap64 (by omega) (by omega)]; rfl
      clear hK
      have hw1 := shr32 (x := k2) (show w.length < 32 by omega)
      have hw2 := and32 (x := k2 / 2 ^ w.length) (Nat.lt_of_le_of_lt (Nat.div_le_self _ _) hk2l)
      refine W.block ?_
      refine W.rseq (k := 4) rfl fun K hK => ?_
      simp only [go_sem, a16, i9, hsj]
      refine hK _ _ _ ?_
      clear hK K
      refine W.rseq (k := 8) rfl fun K hK => ?_
      have nx5 : ∀ (t' : Fr) (h' : Heap) (n' : Nat), 0 < n' → (t' 1 = .ro (w.map eIn) ∧ t' 2 = .ro (rows.map eRw) ∧ t' 16 = .ro (p.right.map eSy) ∧ t' 17 = .int .i64 p.right.length) → t' 8 = .int .u32 k → t' 9 = .bool (more || overB s k rows) → t' 18 = .int .i64 j → t' 11 = .ptr (n + 3) 0 0 → h' (n + 3) = some (.cells [eSy s]) → K t' h' n' := by
        intro t' h' n' e1 e2 e3 e4 e5 e6 e7
        refine hK _ _ _ ?_
        clear hK K
        have e2' := e2
        obtain ⟨a1, a2, a16, a17⟩ := e2'
        refine W.rseq (k := 6) rfl fun K hK => ?_
        simp only [go_sem, e6, e7, e3, a1, a2]
        refine VCall.frz 6 h135 rfl ?_
        simp only [go_sem]
        refine hK _ _ _ ?_
        first | clear hK K | clear hK | skip
        cases hm : more || overB s k rows
        · refine W.region (k := 10) rfl ?_
          simp only [go_sem, e4, hm, a1, hw1, hw2, bit_is1]
          exact nx _ _ _ (by omega) e2 rfl (by rw [hm]; rfl) e5
        · refine W.region (k := 10) rfl ?_
          simp only [go_sem, e4, hm]
          exact nx _ _ _ (by omega) e2 rfl (by rw [hm]; rfl) e5
      clear hK
      cases hm : more
      · simp only [go_sem, i8, hm, i7, a2]
        refine VCall.frz 6 h134 rfl ?_
        simp only [go_sem]
        exact nx5 _ _ _ (by omega) i6 i7 (by rw [hm]; rfl) i9 rfl (by simp only [go_sem])
      · simp only [go_sem, i8, hm]
        exact nx5 _ _ _ (by omega) i6 i7 (by rw [hm]; rfl) i9 rfl (by simp only [go_sem])
    · refine W.exit ?_
      simp only [go_sem]
      have hj : j = p.right.length := by simp at hc; omega
      rw [hj, List.drop_length, comesL] at i5
      refine W.rseq (k := 4) rfl fun K hK => ?_
      simp only [go_sem, i7, i8]
      refine hK _ _ _ ?_
      clear hK K
      refine W.ret ?_
      simp only [go_sem]
      rw [← i5]
  obtain ⟨r, h', n', hb, rfl⟩ := fin
  exact ⟨_, h', n', hb, 3, fun fr => rfl⟩

end Go.Av

