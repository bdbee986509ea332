/-
  Layer 17: Lead, and what is looked at. Conditions: none.
-/
import Derived.Test.YtiiogleijmcccaaZ6
import Derived.Test.YtiiogleijmcccaaT9
namespace Go.Av
open Go.Proofs
set_option maxRecDepth 100000
set_option linter.unusedSimpArgs false
set_option linter.unusedVariables false

def largeS (g : Gr) (w : List Int) : Bool := large g || decide ((g.prods.length : Int) > 20) || (decide ((w.length : Int) > 8) && decide ((w.length : Int) ≤ 24)) || decide ((w.length : Int) > 40)

theorem not_largeS {g : Gr} {w : List Int} (h : largeS g w = false) : w.length ≤ 40 := by
  rw [largeS, Bool.or_eq_false_iff] at h
  have := of_decide_eq_false h.2
  omega

theorem f79 (g : Gr) (hg : g.Small) (w : List Int) : PF pg Tq 79 [.agg (eGr g), .ro (w.map eIn)] (.bool (largeS g w)) := by
  unfold largeS
  refine Fb ?_
  refine FH.of (N := 28) (rs := #[.tmp 4]) Try.func79 rfl rfl (of_decide_eq_true rfl) rfl (by decide) ?_
  refine W.rseq (k := 2) rfl fun K hK => ?_
  simp only [go_sem]
  refine hK _ _ _ ?_
  clear hK K
  refine W.rseq (k := 24) rfl fun K hK => ?_
  simp only [go_sem]
  refine VCall.frz 6 (f28 g hg) rfl ?_
  cases hl : large g
  · by_cases c1 : (g.prods.length : Int) > 20
    · simp only [go_sem, decide_eq_true c1]
      refine hK _ _ _ ?_
      first | clear hK K | clear hK | skip
      refine W.ret ?_
      simp only [go_sem]
      simp [c1, hl]
    · by_cases c2 : (w.length : Int) > 8
      · by_cases c3 : (w.length : Int) ≤ 24
        · simp only [go_sem, decide_eq_false c1, decide_eq_true c2, decide_eq_true c3]
          refine hK _ _ _ ?_
          first | clear hK K | clear hK | skip
          refine W.ret ?_
          simp only [go_sem]
          simp [c2, c3, hl]
        · simp only [go_sem, decide_eq_false c1, decide_eq_true c2, decide_eq_false c3]
          refine hK _ _ _ ?_
          first | clear hK K | clear hK | skip
          refine W.ret ?_
          simp only [go_sem]
          simp [c1, c2, c3, hl]
      · simp only [go_sem, decide_eq_false c1, decide_eq_false c2]
        refine hK _ _ _ ?_
        first | clear hK K | clear hK | skip
        refine W.ret ?_
        simp only [go_sem]
        simp [c1, c2, hl]
  · simp only [go_sem]
    refine hK _ _ _ ?_
    first | clear hK K | clear hK | skip
    refine W.ret ?_
    simp only [go_sem]
    simp [hl]

theorem rows_in {g : Gr} {w : List Int} {l : List (Nat → Nat)} (h : RowsC g w l) : RwIn l := fun j i => by
  by_cases hj : j < l.length
  · exact (h.2 j hj).1.1 i
  · unfold rowAt
    rw [List.getD_eq_getElem?_getD, List.getElem?_eq_none (by omega)]
    exact (by decide : 0 < 2 ^ 32)

/-- Lead, by what the rows are. -/
def leadL (g : Gr) (w : List Int) (kind : Int) (l : List (Nat → Nat)) : Int × List Int := if l = [] ∨ kind < 0 ∨ kind > 2 then (1, []) else byL g w kind l

set_option maxHeartbeats 8000000 in
theorem f81 (g : Gr) (hg : g.Small) (w : List Int) (kind : Int) (l : List (Nat → Nat)) (h74 : PF pg Tq 74 [.agg (eGr g), .ro (w.map eIn)] (.ro (l.map eRw))) (hl0 : fitG g w = false → l = []) (hl1 : fitG g w = true → RowsC g w l) :
    PF pg Tq 81 [.agg (eGr g), .ro (w.map eIn), .int .i64 kind] (.tup [.ro ((leadL g w kind l).2.map eIn), .int .i64 (leadL g w kind l).1]) := by
  have fin : FH pg Tq 81 [.agg (eGr g), .ro (w.map eIn), .int .i64 kind] h0 0 fun r h n => ∃ v, r = .tup [v, .int .i64 (leadL g w kind l).1] ∧ SlL eIn 1 h 0 n v (leadL g w kind l).2 := by
    refine FH.of (N := 30) (rs := #[.tmp 6, .tmp 7]) Try.func81 rfl rfl (of_decide_eq_true rfl) rfl (by decide) ?_
    refine W.rseq (k := 3) rfl fun K hK => ?_
    simp only [go_sem]
    refine hK _ _ _ ?_
    clear hK K
    refine W.rseq (k := 4) rfl fun K hK => ?_
    simp only [go_sem]
    refine VCall.frz 6 h74 rfl ?_
    try simp only [go_sem]
    refine hK _ _ _ ?_
    clear hK K
    refine W.seq ?_
    cases hf : fitG g w with
    | false =>
      have hl := hl0 hf
      subst hl
      refine W.rseq (k := 11) rfl fun K hK => ?_
      simp only [go_sem, List.map_nil]
      refine hK _ _ _ ?_
      first | clear hK K | clear hK | skip
      refine W.condT (by simp only [go_sem]) ?_
      refine W.rseq (k := 2) rfl fun K hK => ?_
      simp only [go_sem]
      refine hK _ _ _ ?_
      clear hK K
      refine W.ret ?_
      simp only [go_sem]
      rw [leadL, if_pos (.inl rfl)]
      exact ⟨.nils, rfl, .inl ⟨rfl, rfl⟩⟩
    | true =>
      have hrc := hl1 hf
      have hle : ¬ l = [] := fun e => by have := hrc.1; rw [e] at this; simp at this
      have hw := fit_len hf
      have hln : ¬ (l.length : Int) = 0 := by have := hrc.1; omega
      by_cases c1 : kind < 0
      · refine W.rseq (k := 11) rfl fun K hK => ?_
        simp only [go_sem, List.length_map, decide_eq_false hln, decide_eq_true c1]
        refine hK _ _ _ ?_
        first | clear hK K | clear hK | skip
        refine W.condT (by simp only [go_sem]) ?_
        refine W.rseq (k := 2) rfl fun K hK => ?_
        simp only [go_sem]
        refine hK _ _ _ ?_
        clear hK K
        refine W.ret ?_
        simp only [go_sem]
        rw [leadL, if_pos (.inr (.inl c1))]
        exact ⟨.nils, rfl, .inl ⟨rfl, rfl⟩⟩
      · by_cases c2' : kind > 2
        · refine W.rseq (k := 11) rfl fun K hK => ?_
          simp only [go_sem, List.length_map, decide_eq_false hln, decide_eq_false c1, decide_eq_true c2']
          refine hK _ _ _ ?_
          first | clear hK K | clear hK | skip
          refine W.condT (by simp only [go_sem]) ?_
          refine W.rseq (k := 2) rfl fun K hK => ?_
          simp only [go_sem]
          refine hK _ _ _ ?_
          clear hK K
          refine W.ret ?_
          simp only [go_sem]
          rw [leadL, if_pos (.inr (.inr c2'))]
          exact ⟨.nils, rfl, .inl ⟨rfl, rfl⟩⟩
        · refine W.rseq (k := 11) rfl fun K hK => ?_
          simp only [go_sem, List.length_map, decide_eq_false hln, decide_eq_false c1, decide_eq_false c2']
          refine hK _ _ _ ?_
          first | clear hK K | clear hK | skip
          refine W.condF (by simp only [go_sem]) ?_
          refine W.skip ?_
          simp only [go_sem]
          refine W.rseq (k := 9) rfl fun K hK => ?_
          simp only [go_sem]
          refine VCall.heap (f84h _ _ g hg (fit_good hf) w kind l hrc.1 (by have := hrc.1; omega) (rows_in hrc)) fun r1 h1 n1 ⟨v, c3, c2⟩ => ?_
          subst c3
          simp only [go_sem]
          refine hK _ _ _ ?_
          first | clear hK K | clear hK | skip
          refine W.ret ?_
          simp only [go_sem]
          rw [leadL, if_neg (fun q => q.elim hle fun q => q.elim c1 c2')]
          exact ⟨v, rfl, c2.next rfl (fun x _ _ => rfl) (by omega) (Nat.zero_le _)⟩
  obtain ⟨r, h', n', hb, v, rfl, ho⟩ := fin
  refine ⟨_, h', n', hb, 7, fun fr => ?_⟩
  have h1 : rf fr 5 h' v = some (.ro ((leadL g w kind l).2.map eIn)) := ho.frz (d := 3) fun x _ => by simp [rfs, rf, eIn]
  unfold rf
  simp only [rfs, List.mapM_cons, h1]
  rfl

end Go.Av

