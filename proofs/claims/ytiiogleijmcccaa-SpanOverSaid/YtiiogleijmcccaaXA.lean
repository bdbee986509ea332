/-
  Layer 16: a row hangs on nothing but its word. Conditions: none.
-/
import Derived.Test.YtiiogleijmcccaaX9
namespace Go.Av
open Go.Proofs
set_option maxRecDepth 100000
set_option linter.unusedSimpArgs false
set_option linter.unusedVariables false

theorem below_drop {w : List Int} {m : Int} {a : Nat} (h : belowB w m = true) : belowB (w.drop a) m = true := by
  unfold belowB at h ⊢
  rw [List.all_eq_true] at h ⊢
  exact fun x hx => h x (List.drop_subset a w hx)

theorem fit_drop {g : Gr} {w : List Int} {a : Nat} (h : fitG g w = true) : fitG g (w.drop a) = true := by
  rw [fitG, fitsW, rightW, Bool.and_eq_true, Bool.and_eq_true, Bool.and_eq_true] at h ⊢
  obtain ⟨h1, ⟨h2, h3⟩, h4⟩ := h
  refine ⟨h1, ⟨decide_eq_true ?_, below_drop h3⟩, below_drop h4⟩
  have := of_decide_eq_true h2
  rw [List.length_drop]
  omega

theorem RowsC.drop {g : Gr} {w : List Int} {l : List (Nat → Nat)} (h : RowsC g w l) {a : Nat} (ha : a ≤ w.length) : RowsC g (w.drop a) (l.drop a) := by
  refine ⟨by rw [List.length_drop, List.length_drop, h.1]; omega, fun b hb => ?_⟩
  rw [List.length_drop] at hb
  have := h.2 (a + b) (by omega)
  rw [List.drop_drop]
  have e : rowAt (l.drop a) b = rowAt l (a + b) := by
    unfold rowAt
    rw [List.getD_eq_getElem?_getD, List.getD_eq_getElem?_getD, List.getElem?_drop]
  rw [e]; exact this

theorem RowsC.behind {g : Gr} {w : List Int} {l : List (Nat → Nat)} (h : RowsC g w l) {a : Nat} (ha : a ≤ w.length) : RcB g (w.drop a) (l.drop (a + 1)) := by
  refine ⟨by rw [List.length_drop, List.length_drop, h.1]; omega, fun b hb => ?_⟩
  rw [List.length_drop] at hb
  have := h.2 (a + 1 + b) (by rw [h.1]; omega)
  rw [List.drop_drop, show a + (b + 1) = a + 1 + b by omega]
  have e : rowAt (l.drop (a + 1)) b = rowAt l (a + 1 + b) := by
    unfold rowAt
    rw [List.getD_eq_getElem?_getD, List.getD_eq_getElem?_getD, List.getElem?_drop]
  rw [e]; exact this

theorem not_large {g : Gr} {w : List Int} (h : largeW g w = false) : w.length ≤ 40 := by
  rw [largeW, Bool.or_eq_false_iff] at h
  have := of_decide_eq_false h.2
  omega

set_option maxHeartbeats 8000000 in
theorem f21 (g : Gr) (hg : g.Small) (w : List Int) (k : Nat) (hk : k < 256) : FH pg Tq 21 [.agg (eGr g), .ro (w.map eIn), .int .u8 k] h0 0 fun r _ _ => r = .bool true := by
  refine FH.of (N := 64) (rs := #[.tmp 6]) Try.func21 rfl rfl (of_decide_eq_true rfl) rfl (by decide) ?_
  refine W.rseq (k := 2) rfl fun K hK => ?_
  simp only [go_sem]
  refine hK _ _ _ ?_
  clear hK K
  refine W.seq ?_
  refine W.rseq (k := 2) rfl fun K hK => ?_
  simp only [go_sem]
  refine VCall.frz 6 f70 rfl ?_
  try simp only [go_sem]
  refine hK _ _ _ ?_
  clear hK K
  refine W.condF (by simp only [go_sem]) ?_
  refine W.skip ?_
  simp only [go_sem]
  refine W.seq ?_
  refine W.rseq (k := 3) rfl fun K hK => ?_
  simp only [go_sem]
  refine VCall.frz 6 (f71 g hg w) rfl ?_
  try simp only [go_sem]
  refine hK _ _ _ ?_
  clear hK K
  cases hlg : largeW g w with
  | true =>
    refine W.condT (by simp only [go_sem, hlg]) ?_
    refine W.rseq (k := 1) rfl fun K hK => ?_
    simp only [go_sem]
    refine hK _ _ _ ?_
    clear hK K
    refine W.ret ?_
    simp only [go_sem]
  | false =>
  refine W.condF (by simp only [go_sem, hlg]) ?_
  refine W.skip ?_
  simp only [go_sem]
  have hw40 := not_large hlg
  obtain ⟨l, h74, hl0, hl1⟩ := f74 g hg w (by omega)
  refine W.rseq (k := 4) rfl fun K hK => ?_
  simp only [go_sem]
  refine VCall.frz 6 h74 rfl ?_
  try simp only [go_sem]
  refine hK _ _ _ ?_
  clear hK K
  cases hf : fitG g w with
  | false =>
    have hl := hl0 hf
    subst hl
    refine W.seq ?_
    refine W.rseq (k := 3) rfl fun K hK => ?_
    simp only [go_sem, List.map_nil]
    refine hK _ _ _ ?_
    clear hK K
    refine W.condT (by simp only [go_sem]) ?_
    refine W.rseq (k := 5) rfl fun K hK => ?_
    simp only [go_sem, hf]
    refine VCall.frz 6 (f76 g hg w (by omega)) rfl ?_
    try simp only [go_sem, hf]
    refine hK _ _ _ ?_
    clear hK K
    refine W.ret ?_
    simp only [go_sem]
  | true =>
  have hrc := hl1 hf
  have hll := hrc.1
  have hw24 := fit_len hf
  have hr := fit_right hf
  refine W.seq ?_
  refine W.rseq (k := 3) rfl fun K hK => ?_
  simp only [go_sem]
  refine hK _ _ _ ?_
  clear hK K
  refine W.condF (by simp only [go_sem]; exact congrArg (fun b => some (AV.bool b)) (decide_eq_false (by omega))) ?_
  refine W.skip ?_
  simp only [go_sem]
  refine W.seq ?_
  refine W.rseq (k := 6) rfl fun K hK => ?_
  simp only [go_sem, wrap64 (show -9223372036854775808 ≤ (w.length : Int) + 1 by omega) (by omega), decide_eq_true (show (l.length : Int) = (w.length : Int) + 1 by omega)]
  refine hK _ _ _ ?_
  clear hK K
  refine W.condF (by simp only [go_sem]) ?_
  refine W.skip ?_
  simp only [go_sem]
  refine W.rseq (k := 6) rfl fun K hK => ?_
  simp only [go_sem, wrap64 (show -9223372036854775808 ≤ (k : Int) by omega) (by omega), show ¬ (l.length : Int) = 0 by omega, ne_eq, not_false_eq_true, if_true, (Int.ofNat_tmod k l.length).symm]
  refine hK _ _ _ ?_
  clear hK K
  obtain ⟨a, ha⟩ : ∃ a, a = k % l.length := ⟨_, rfl⟩
  have hal : a ≤ w.length := by have := Nat.mod_lt k (show 0 < l.length by omega); omega
  rw [← ha]
  obtain ⟨m, h74a, _, hm1⟩ := f74 g hg (w.drop a) (by rw [List.length_drop]; omega)
  have hma := (hm1 (fit_drop hf)).uniq (hrc.drop hal)
  rw [hma] at h74a
  clear hm1 hma
  have hlda : (l.drop a).length < 2 ^ 30 := by rw [List.length_drop]; omega
  have h73 := f73 (l.drop a) hlda
  have h72 := f72 (l.drop a) (by omega)
  obtain ⟨f, h77, hfr⟩ := f77' g hg hr (w.drop a) (by rw [List.length_drop]; omega) (l.drop (a + 1)) (hrc.behind hal)
  have hfl := hfr.uniq (hrc.2 a (by omega))
  rw [hfl] at h77
  have hga := row_get (rows := l) (j := a) (by omega)
  refine W.dseq (k := 6) rfl fun K hK => ?_
  simp only [go_sem, List.length_map, cut_map, len_map (e := eIn) (sz := 1) (fun x => rfl), hal]
  refine VCall.frz 6 h74a rfl ?_
  simp only [go_sem]
  refine hK _ _ _ _ (by kernel_rfl) ?_
  clear hK K
  refine W.dseq (k := 24) rfl fun K hK => ?_
  simp only [go_sem]
  refine VCall.frz 6 h73 rfl ?_
  simp only [go_sem, List.length_map, cut_map, len_map (e := eRw) (sz := 25) (fun x => eR_len), show a ≤ l.length by omega]
  refine VCall.frz 6 h73 rfl ?_
  simp only [go_sem]
  refine VCall.frz 6 h72 rfl ?_
  simp only [go_sem, List.length_map, cut_map, len_map (e := eIn) (sz := 1) (fun x => rfl), len_map (e := eRw) (sz := 25) (fun x => eR_len), hal, show a + 1 ≤ l.length by omega, wrap64 (show -9223372036854775808 ≤ (a : Int) + 1 by omega) (by omega), show (0 : Int) ≤ (a : Int) + 1 by omega, show ((a : Int) + 1).toNat = a + 1 by omega, Nat.le_refl, and_self, if_true]
  refine VCall.frz 6 h77 rfl ?_
  simp only [go_sem, hga, eR_len, eR_tk, eqs_rw, eqR_self]
  refine hK _ _ _ _ (by kernel_rfl) ?_
  clear hK K
  refine W.ret ?_
  simp only [go_sem]

theorem f21' (g : Gr) (hg : g.Small) (w : List Int) (n : Int) (hn : 0 ≤ n ∧ n < 256) : FH pg Tq 21 [.agg (eGr g), .ro (w.map eIn), .int .u8 n] h0 0 fun r _ _ => r = .bool true := by
  obtain ⟨k, rfl⟩ := Int.eq_ofNat_of_zero_le hn.1
  exact f21 g hg w k (by omega)

end Go.Av

