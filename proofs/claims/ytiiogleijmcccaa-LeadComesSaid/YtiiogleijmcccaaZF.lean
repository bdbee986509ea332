/-
  Layer 17: what is told is a derivation. Conditions: none.
-/
import Derived.Test.YtiiogleijmcccaaZE
import Derived.Test.YtiiogleijmcccaaY3
import Derived.Test.YtiiogleijmcccaaY4
namespace Go.Av
open Go.Proofs
set_option maxRecDepth 100000
set_option linter.unusedSimpArgs false
set_option linter.unusedVariables false

/-- Is there one of this kind? -/
noncomputable def wantL (g : Gr) (w : List Int) (k : Nat) : Bool := if k = 2 then spanF (wildG g) w (wildG g).start.toNat 0 w.length else spanF g w g.start.toNat 0 w.length

theorem want_ok {g : Gr} (hG : GoodG g) {w : List Int} {k : Nat} : wantL g w k = true ↔ Ok g w ((k : Int) = 2) [⟨true, g.start⟩] 0 := by
  obtain ⟨⟨hn1, hn2⟩, _, ⟨hs1, hs2⟩, _⟩ := right_in hG.right
  have hst : ((g.start.toNat : Nat) : Int) = g.start := by omega
  by_cases hk : k = 2
  · subst hk
    have e : (((2 : Nat) : Int) = 2) = True := by simp
    rw [e, wantL, if_pos rfl, spanF_iff, show (((wildG g).start.toNat : Nat) : Int) = g.nons + g.start from by show ((g.nons + g.start).toNat : Int) = _; omega, wild_iff hG.right hs1]
    constructor
    · intro h
      refine .inr ?_
      rw [if_pos rfl]
      exact .inr ⟨trivial, h⟩
    · intro h
      have heps : 0 = w.length → Ovr g w g.start 0 := fun h0 => by
        obtain ⟨i, _, _, p, hp, hl⟩ := hG.fact g.start hs1 hs2
        rw [← hl]
        exact .eps (List.mem_of_getElem? hp) h0
      rcases h with ⟨_, h0⟩ | h
      · exact heps h0
      · rw [if_pos rfl] at h
        rcases h with ⟨b, h1, h2⟩ | h
        · have h2 : b = w.length := h2
          subst h2
          obtain ⟨p, hp, hl, hd⟩ := der_non h1
          by_cases hr : p.right = []
          · rw [hr] at hd
            refine heps ?_
            generalize w.length = z at hd
            cases hd; rfl
          · have hl : p.left = g.start := hl
            rw [← hl]
            exact .all hp (l := p.right) (m := []) (by simp) hr hd
        · exact h.2
  · have e : ((k : Int) = 2) = False := eq_false (by omega)
    rw [e, wantL, if_neg hk, spanF_iff, hst]
    exact ⟨fun h => der_ok h, fun h => h.der (fun q => q)⟩

theorem comes_law {g : Gr} (hG : GoodG g) {w : List Int} (hw : w.length ≤ 24) {l : List (Nat → Nat)} (hrc : RowsC g w l) (k : Nat) :
    (wantL g w k = false ∧ byL g w k l = (11, [])) ∨ (wantL g w k = true ∧ byL g w k l = (5, [])) ∨ (wantL g w k = true ∧ (byL g w k l).1 = 0 ∧ ∃ t, replayL g (byL g w k l).2 = (0, w ++ t) ∧ (k ≠ 2 → t = [])) := by
  cases hwt : wantL g w k
  · refine .inl ⟨rfl, by_no fun q => ?_⟩
    have := (want_ok hG).2 ((start_ok hG hrc hw).1 q)
    rw [hwt] at this
    cases this
  · right
    rcases by_spec hG hrc hw ((want_ok hG).1 hwt) with q | ⟨q, t, q1, q2⟩
    · left
      have q2 := by_err (g := g) (w := w) (kind := k) (rows := l) (by rw [q]; decide)
      refine ⟨rfl, ?_⟩
      rw [← q, ← q2]
    · right
      exact ⟨rfl, q, t, by rw [replay_rep hG.right by_len]; exact q1, fun hk => q2 (by omega)⟩

set_option maxHeartbeats 16000000 in
theorem f24 (g : Gr) (hg : g.Small) (w : List Int) : FH pg Tq 24 [.agg (eGr g), .ro (w.map eIn)] h0 0 fun r _ _ => r = .bool true := by
  refine FH.of (N := 110) (rs := #[.tmp 4]) Try.func24 rfl rfl (of_decide_eq_true rfl) rfl (by decide) ?_
  refine W.rseq (k := 2) rfl fun K hK => ?_
  simp only [go_sem]
  refine hK _ _ _ ?_
  clear hK K
  refine W.seq ?_
  refine W.rseq (k := 2) rfl fun K hK => ?_
  simp only [go_sem]
  refine VCall.frz 6 f78 rfl ?_
  try simp only [go_sem]
  refine hK _ _ _ ?_
  clear hK K
  refine W.condF (by simp only [go_sem]) ?_
  refine W.skip ?_
  simp only [go_sem]
  refine W.seq ?_
  refine W.rseq (k := 9) rfl fun K hK => ?_
  simp only [go_sem]
  refine VCall.frz 6 (f79 g hg w) rfl ?_
  cases hlg : largeS g w with
  | true =>
    simp only [go_sem]
    refine hK _ _ _ ?_
    first | clear hK K | clear hK | skip
    refine W.condT (by simp only [go_sem]) ?_
    refine W.rseq (k := 1) rfl fun K hK => ?_
    simp only [go_sem]
    refine hK _ _ _ ?_
    clear hK K
    refine W.ret ?_
    simp only [go_sem]
  | false =>
    have hw40 := not_largeS hlg
    simp only [go_sem]
    refine VCall.frz 6 (f76 g hg w (by omega)) rfl ?_
    cases hf : fitG g w with
    | false =>
      simp only [go_sem]
      refine hK _ _ _ ?_
      first | clear hK K | clear hK | skip
      refine W.condT (by simp only [go_sem]) ?_
      refine W.rseq (k := 1) rfl fun K hK => ?_
      simp only [go_sem]
      refine hK _ _ _ ?_
      clear hK K
      refine W.ret ?_
      simp only [go_sem]
    | true =>
      simp only [go_sem]
      refine hK _ _ _ ?_
      first | clear hK K | clear hK | skip
      refine W.condF (by simp only [go_sem]) ?_
      refine W.skip ?_
      simp only [go_sem]
      obtain ⟨l, h74, hl0, hl1⟩ := f74 g hg w (by omega)
      have hrc := hl1 hf
      have hw := fit_len hf
      have hG := fit_good hf
      obtain ⟨⟨hn1, hn2⟩, _, ⟨hs1, hs2⟩, _⟩ := right_in hG.right
      have hgp : g.prods ≠ [] := fun e => by
        obtain ⟨i, _, hi, _⟩ := hG.fact g.start hs1 hs2
        rw [e] at hi
        simp at hi
      have hI := f64 g hg (right_dom hG.right) ⟨hs1, hs2⟩ w (by omega)
      have hB := f64 (wildG g) (wild_small hG.right) (wild_dom hG.right) ⟨by show 0 ≤ g.nons + g.start; omega, by show g.nons + g.start < 2 * g.nons; omega⟩ w (by omega)
      refine W.dseq (k := 9) rfl fun K hK => ?_
      simp only [go_sem]
      refine VCall.frz 6 hI rfl ?_
      simp only [go_sem]
      refine VCall.frzr 6 (f83 g hg hG.right hgp) rfl ?_
      simp only [go_sem]
      refine VCall.frz 6 hB rfl ?_
      simp only [go_sem]
      refine hK _ _ _ _ (by kernel_rfl) ?_
      clear hK K
      obtain ⟨I, hIe⟩ : ∃ I, I = spanF g w g.start.toNat 0 w.length := ⟨_, rfl⟩
      obtain ⟨B, hBe⟩ : ∃ B, B = spanF (wildG g) w (wildG g).start.toNat 0 w.length := ⟨_, rfl⟩
      have hwt : ∀ k, wantL g w k = if k = 2 then B else I := fun k => by rw [wantL, ← hIe, ← hBe]
      rw [← hIe, ← hBe]
      clear hI hB hIe hBe
      refine W.seqk fun K hK => ?_
      refine W.rseq (k := 1) rfl fun K hK => ?_
      simp only [go_sem]
      refine hK _ _ _ ?_
      clear hK K
      have nx0 : ∀ (t' : Fr) (h' : Heap) (n' : Nat), K t' h' n' := by
        intro t' h' n'
        refine hK _ _ _ ?_
        clear hK K
        refine W.rseq (k := 1) rfl fun K hK => ?_
        simp only [go_sem]
        refine hK _ _ _ ?_
        clear hK K
        refine W.ret ?_
        simp only [go_sem]
      clear hK
      refine W.block (W.while (fun m t h n => ∃ k : Nat, m = 3 - k ∧ k ≤ 3 ∧ h 0 = some (.cells [eGr g]) ∧ (t 1 = .ro (w.map eIn) ∧ t 2 = .ptr 0 0 0 ∧ t 5 = .bool I ∧ t 6 = .bool B) ∧ t 7 = .int .i64 k ∧ 0 < n) 3
        ⟨0, rfl, by omega, by simp only [go_sem], ⟨rfl, rfl, rfl, rfl⟩, rfl, by omega⟩ fun m t h n ⟨k, i1, i2, i3, i4, i5, i6⟩ => ?_)
      have i4' := i4
      obtain ⟨a1, a2, a5, a6⟩ := i4'
      refine W.seq ?_
      refine W.rseq (k := 2) rfl fun K hK => ?_
      simp only [go_sem, i5]
      refine hK _ _ _ ?_
      clear hK K
      refine W.cond rfl (fun hc => ?_) fun hc => ?_
      · refine W.skip ?_
        simp only [go_sem]
        have hk : k < 3 := by simp at hc; omega
        refine W.seqk fun K hK => ?_
        have nx : ∀ (t' : Fr) (h' : Heap) (n' : Nat), h' 0 = some (.cells [eGr g]) → (t' 1 = .ro (w.map eIn) ∧ t' 2 = .ptr 0 0 0 ∧ t' 5 = .bool I ∧ t' 6 = .bool B) → t' 7 = .int .i64 k → 0 < n' → K t' h' n' := by
          intro t' h' n' e1 e2 e3 e4
          refine hK _ _ _ ?_
          clear hK K
          refine W.region (k := 3) rfl ?_
          simp only [go_sem, e3]
          refine ⟨3 - (k + 1), by omega, k + 1, rfl, by omega, e1, e2, ?_, by omega⟩
          rw [wrap64 (by omega) (by omega)]; rfl
        clear hK
        have h81 := f81 g hg w k l h74 hl0 hl1
        rw [lead_by hrc (by omega) (by omega)] at h81
        have hlaw := comes_law hG hw hrc k
        have hRl := by_len (g := g) (w := w) (kind := k) (l := l)
        obtain ⟨R, hR⟩ : ∃ R, R = byL g w k l := ⟨_, rfl⟩
        rw [← hR] at h81 hlaw hRl
        rw [hwt k] at hlaw
        clear hR
        obtain ⟨eR, LR⟩ := R
        simp only at h81 hlaw hRl
        have h56 := f56 g hg LR (by omega)
        refine W.block ?_
        refine W.rseq (k := 9) rfl fun K hK => ?_
        simp only [go_sem, a1, a2, i3, i5]
        refine VCall.frz 6 h81 rfl ?_
        try simp only [go_sem, a1, a2, i3, i5]
        refine hK _ _ _ ?_
        clear hK K
        refine W.rseq (k := 2) rfl fun K hK => ?_
        simp only [go_sem, a5]
        refine hK _ _ _ ?_
        clear hK K
        refine W.seqk fun K hK => ?_
        obtain ⟨Wt, hWt⟩ : ∃ Wt, Wt = if k = 2 then B else I := ⟨_, rfl⟩
        rw [← hWt] at hlaw
        have nx2 : ∀ (t' : Fr) (h' : Heap) (n' : Nat), h' 0 = some (.cells [eGr g]) → (t' 1 = .ro (w.map eIn) ∧ t' 2 = .ptr 0 0 0 ∧ t' 5 = .bool I ∧ t' 6 = .bool B) → t' 7 = .int .i64 k → 0 < n' → t' 8 = .ro (LR.map eIn) → t' 9 = .int .i64 eR → t' 10 = .bool Wt → K t' h' n' := by
          intro t' h' n' q1 q2 q3 q4 q5 q6 q7
          refine hK _ _ _ ?_
          clear hK K
          have q2' := q2
          obtain ⟨c1, c2, c5, c6⟩ := q2'
          rcases hlaw with ⟨rfl, hR⟩ | ⟨rfl, hR⟩ | ⟨rfl, hR, t, hrp, ht⟩
          · injection hR with hR1 hR2
            subst hR1 hR2
            refine W.seq ?_
            refine W.rseq (k := 10) rfl fun K hK => ?_
            simp only [go_sem, q5, q6, q7, List.map_nil]
            refine hK _ _ _ ?_
            clear hK K
            refine W.condF (by simp only [go_sem]) ?_
            refine W.skip ?_
            simp only [go_sem]
            refine W.seq ?_
            refine W.rseq (k := 17) rfl fun K hK => ?_
            simp only [go_sem, q5, q6, q7, List.map_nil]
            refine hK _ _ _ ?_
            clear hK K
            refine W.condF (by simp only [go_sem]) ?_
            refine W.skip ?_
            simp only [go_sem]
            refine W.seq ?_
            refine W.rseq (k := 2) rfl fun K hK => ?_
            simp only [go_sem, q6]
            refine hK _ _ _ ?_
            clear hK K
            refine W.condT (by simp only [go_sem]) ?_
            refine W.exit ?_
            simp only [go_sem]
            exact nx _ _ _ q1 q2 q3 (by omega)
          · injection hR with hR1 hR2
            subst hR1 hR2
            refine W.seq ?_
            refine W.rseq (k := 10) rfl fun K hK => ?_
            simp only [go_sem, q5, q6, q7, List.map_nil]
            refine hK _ _ _ ?_
            clear hK K
            refine W.condT (by simp only [go_sem]) ?_
            refine W.exit ?_
            simp only [go_sem]
            exact nx _ _ _ q1 q2 q3 (by omega)
          · subst hR
            obtain ⟨v, hv⟩ : ∃ v, v = w ++ t := ⟨_, rfl⟩
            rw [← hv] at hrp
            rw [hrp] at h56
            have hvl : v.length = w.length + t.length := by rw [hv, List.length_append]
            have htk : (v.map eIn).take w.length = w.map eIn := by rw [← List.map_take, hv, List.take_left]
            have h59 := f59 w w (by omega) (by omega)
            rw [beq_self_eq_true] at h59
            refine W.seq ?_
            refine W.rseq (k := 10) rfl fun K hK => ?_
            simp only [go_sem, q5, q6, q7]
            refine hK _ _ _ ?_
            clear hK K
            refine W.condF (by simp only [go_sem]) ?_
            refine W.skip ?_
            simp only [go_sem]
            refine W.seq ?_
            refine W.rseq (k := 17) rfl fun K hK => ?_
            simp only [go_sem, q5, q6, q7]
            refine hK _ _ _ ?_
            clear hK K
            refine W.condF (by simp only [go_sem]) ?_
            refine W.skip ?_
            simp only [go_sem]
            refine W.seq ?_
            refine W.rseq (k := 2) rfl fun K hK => ?_
            simp only [go_sem, q6]
            refine hK _ _ _ ?_
            clear hK K
            refine W.condF (by simp only [go_sem]) ?_
            refine W.skip ?_
            simp only [go_sem]
            refine W.rseq (k := 8) rfl fun K hK => ?_
            simp only [go_sem, c2, q1, q5]
            refine VCall.frz 6 h56 rfl ?_
            try simp only [go_sem, c2, q1, q5]
            refine hK _ _ _ ?_
            clear hK K
            refine W.rseq (k := 29) rfl fun K hK => ?_
            simp only [go_sem, c1, q3, List.length_map, hvl, decide_eq_false (show ¬ ((w.length + t.length : Nat) : Int) < (w.length : Int) by omega), show (0 : Int) ≤ (w.length : Int) by omega, if_true, Int.toNat_natCast, show w.length ≤ w.length + t.length by omega, Nat.zero_le, len_map (e := eIn) (sz := 1) (fun x => rfl), Nat.sub_zero, List.drop_zero, true_and, and_self, htk]
            refine VCall.frz 6 h59 rfl ?_
            by_cases hk2 : k = 2
            · simp only [go_sem, c1, q3, List.length_map, hvl, decide_eq_true (show (k : Int) = 2 by omega)]
              refine hK _ _ _ ?_
              first | clear hK K | clear hK | skip
              refine W.condF (by simp only [go_sem]) ?_
              refine W.skip ?_
              simp only [go_sem]
              exact nx _ _ _ q1 q2 q3 (by omega)
            · have ht0 := ht hk2
              subst ht0
              simp only [go_sem, c1, q3, List.length_map, hvl, decide_eq_false (show ¬ (k : Int) = 2 by omega), List.length_nil, Nat.add_zero, decide_eq_true]
              refine hK _ _ _ ?_
              first | clear hK K | clear hK | skip
              refine W.condF (by simp only [go_sem]) ?_
              refine W.skip ?_
              simp only [go_sem]
              exact nx _ _ _ q1 q2 q3 (by omega)
        clear hK
        by_cases hk2 : k = 2
        · refine W.rseq (k := 2) rfl fun K hK => ?_
          simp only [go_sem, i5, decide_eq_true (show (k : Int) = 2 by omega)]
          refine hK _ _ _ ?_
          clear hK K
          refine W.condT (by simp only [go_sem]) ?_
          refine W.region (k := 2) rfl ?_
          simp only [go_sem, a6]
          exact nx2 _ _ _ i3 i4 i5 (by omega) rfl rfl (by rw [hWt, if_pos hk2]; rfl)
        · refine W.rseq (k := 2) rfl fun K hK => ?_
          simp only [go_sem, i5, decide_eq_false (show ¬ (k : Int) = 2 by omega)]
          refine hK _ _ _ ?_
          clear hK K
          refine W.condF (by simp only [go_sem]) ?_
          refine W.skip ?_
          simp only [go_sem]
          exact nx2 _ _ _ i3 i4 i5 (by omega) rfl rfl (by rw [hWt, if_neg hk2]; rfl)
      · refine W.exit ?_
        simp only [go_sem]
        exact nx0 _ _ _

end Go.Av

