/-
  Layer 16: a word's rows. Conditions: none.
-/
import Derived.Test.YtiiogleijmcccaaX6
namespace Go.Av
open Go.Proofs
set_option maxRecDepth 100000
set_option linter.unusedSimpArgs false
set_option linter.unusedVariables false

/-- A word's rows, all right. -/
def RowsC (g : Gr) (w : List Int) (l : List (Nat → Nat)) : Prop := l.length = w.length + 1 ∧ ∀ a, a < l.length → Rc g (w.drop a) (rowAt l a)

theorem RowsC.uniq {g : Gr} {w : List Int} {l l' : List (Nat → Nat)} (h : RowsC g w l) (h' : RowsC g w l') : l = l' := by
  refine List.ext_getElem? fun a => ?_
  by_cases ha : a < l.length
  · rw [row_get ha, row_get (by rw [h'.1, ← h.1]; exact ha), (h.2 a ha).uniq (h'.2 a (by rw [h'.1, ← h.1]; exact ha))]
  · rw [List.getElem?_eq_none (by omega), List.getElem?_eq_none (by rw [h'.1, ← h.1]; omega)]

theorem fit_right {g : Gr} {w : List Int} (h : fitG g w = true) : right g = true := by
  rw [fitG, Bool.and_eq_true] at h
  cases hr : right g
  · have h1 := h.1
    rw [checkL, hr] at h1
    cases h1
  · rfl

theorem fit_len {g : Gr} {w : List Int} (h : fitG g w = true) : w.length ≤ 24 := by
  rw [fitG, fitsW, rightW, Bool.and_eq_true, Bool.and_eq_true, Bool.and_eq_true] at h
  have := of_decide_eq_true h.2.1.1
  omega

set_option maxHeartbeats 8000000 in
theorem f74 (g : Gr) (hg : g.Small) (w : List Int) (hwl : w.length < 2 ^ 40) : ∃ l, PF pg Tq 74 [.agg (eGr g), .ro (w.map eIn)] (.ro (l.map eRw)) ∧ (fitG g w = false → l = []) ∧ (fitG g w = true → RowsC g w l) := by
  have fin : FH pg Tq 74 [.agg (eGr g), .ro (w.map eIn)] h0 0 fun r h n => ∃ l, SlL eRw 25 h 0 n r l ∧ (fitG g w = false → l = []) ∧ (fitG g w = true → RowsC g w l) := by
    refine FH.of (N := 38) (rs := #[.tmp 4]) Try.func74 rfl rfl (of_decide_eq_true rfl) rfl (by decide) ?_
    refine W.rseq (k := 2) rfl fun K hK => ?_
    simp only [go_sem]
    refine hK _ _ _ ?_
    clear hK K
    refine W.seq ?_
    refine W.rseq (k := 7) rfl fun K hK => ?_
    simp only [go_sem]
    refine VCall.frz 6 (f66 g hg) rfl ?_
    try simp only [go_sem]
    refine hK _ _ _ ?_
    clear hK K
    refine W.rseq (k := 8) rfl fun K hK => ?_
    by_cases hc : (checkL g).2 = 0
    · simp only [go_sem, decide_eq_true hc]
      refine VCall.frz 6 (f108 g w hwl) rfl ?_
      cases hf : fitsW g w
      · simp only [go_sem]
        refine hK _ _ _ ?_
        first | clear hK K | clear hK | skip
        refine W.condT (by simp only [go_sem]) ?_
        refine W.rseq (k := 1) rfl fun K hK => ?_
        simp only [go_sem]
        refine hK _ _ _ ?_
        clear hK K
        refine W.ret ?_
        simp only [go_sem]
        have hfg : fitG g w = false := by rw [fitG, hf, Bool.and_false]
        exact ⟨[], .inl ⟨rfl, rfl⟩, fun _ => rfl, fun e => by rw [hfg] at e; cases e⟩
      · simp only [go_sem]
        refine hK _ _ _ ?_
        first | clear hK K | clear hK | skip
        refine W.condF (by simp only [go_sem]) ?_
        refine W.skip ?_
        simp only [go_sem]
        have hfg : fitG g w = true := by rw [fitG, hf, decide_eq_true hc]; rfl
        have hr := fit_right hfg
        have hw := fit_len hfg
        clear hc hf
        refine W.rseq (k := 1) rfl fun K hK => ?_
        simp only [go_sem]
        refine hK _ _ _ ?_
        clear hK K
        refine W.seqk fun K hK => ?_
        refine W.rseq (k := 3) rfl fun K hK => ?_
        simp only [go_sem]
        refine hK _ _ _ ?_
        clear hK K
        have nx0 : ∀ (t' : Fr) (h' : Heap) (n' : Nat) (l : List (Nat → Nat)), SlL eRw 25 h' 1 n' (t' 7) l → RowsC g w l → K t' h' n' := by
          intro t' h' n' l e1 e2
          refine hK _ _ _ ?_
          clear hK K
          refine W.rseq (k := 2) rfl fun K hK => ?_
          simp only [go_sem]
          refine hK _ _ _ ?_
          clear hK K
          refine W.ret ?_
          simp only [go_sem]
          exact ⟨l, e1.next rfl (fun x hx hx' => rfl) (by omega) (by omega), (fun e => by rw [hfg] at e; cases e), fun _ => e2⟩
        clear hK
        refine W.block (W.while (fun m t h n => ∃ (j : Nat) (L : List (Nat → Nat)), m = j ∧ j ≤ w.length + 1 ∧ 0 < n ∧ L.length = w.length + 1 - j ∧ (∀ a, a < L.length → Rc g (w.drop (j + a)) (rowAt L a)) ∧ h 0 = some (.cells [eGr g]) ∧ SlL eRw 25 h 1 n (t 7) L ∧ (t 1 = .ro (w.map eIn) ∧ t 2 = .ptr 0 0 0) ∧ t 8 = .int .i64 ((j : Int) - 1)) (w.length + 1)
          ⟨w.length + 1, [], rfl, Nat.le_refl _, by omega, by simp, fun a ha => by simp at ha, by simp only [go_sem], .inl ⟨rfl, rfl⟩, ⟨rfl, rfl⟩, by simp only [go_sem]; congr 1; omega⟩ fun m t h n ⟨j, L, i1, i2, i3, i4, i5, i6, i7, i8, i9⟩ => ?_)
        obtain ⟨a1, a2⟩ := i8
        refine W.seq ?_
        refine W.rseq (k := 2) rfl fun K hK => ?_
        simp only [go_sem, i9]
        refine hK _ _ _ ?_
        clear hK K
        cases j with
        | zero =>
          refine W.condF (by simp only [go_sem]; rfl) ?_
          refine W.exit ?_
          simp only [go_sem]
          refine nx0 _ _ _ L (i7.next rfl (fun x hx hx' => rfl) (by omega) (Nat.le_refl _)) ⟨by rw [i4]; rfl, fun a ha => ?_⟩
          have := i5 a ha
          rwa [Nat.zero_add] at this
        | succ i =>
          have e9 : t 8 = .int .i64 (i : Int) := by rw [i9]; congr 1; omega
          clear i9
          refine W.condT (by simp only [go_sem]; exact congrArg (fun b => some (AV.bool b)) (decide_eq_true (by omega))) ?_
          refine W.skip ?_
          simp only [go_sem]
          have hi : i ≤ w.length := by omega
          have hRB : RcB g (w.drop i) L := by
            refine ⟨by rw [i4, List.length_drop]; omega, fun a ha => ?_⟩
            rw [List.drop_drop, show i + (a + 1) = i + 1 + a by omega]
            exact i5 a (by rw [i4]; rw [List.length_drop] at ha; omega)
          obtain ⟨f, h77, hrc⟩ := f77' g hg hr (w.drop i) (by rw [List.length_drop]; omega) L hRB
          have z0 : ∀ j, ¬ 0 = n + j := fun j => by omega
          have l0 : ∀ j, (0 < n + j) = True := fun j => eq_true (by omega)
          refine W.seqk fun K hK => ?_
          have nx : ∀ (t' : Fr) (h' : Heap) (n' : Nat), 0 < n' → h' 0 = some (.cells [eGr g]) → SlL eRw 25 h' 1 n' (t' 7) (f :: L) → (t' 1 = .ro (w.map eIn) ∧ t' 2 = .ptr 0 0 0) → t' 8 = .int .i64 (i : Int) → K t' h' n' := by
            intro t' h' n' e1 e2 e3 e4 e5
            refine hK _ _ _ ?_
            clear hK K
            refine W.region (k := 3) rfl ?_
            simp only [go_sem, e5]
            refine ⟨i, by omega, i, f :: L, rfl, by omega, by omega, by rw [List.length_cons, i4]; omega, fun a ha => ?_, e2, e3.next rfl (fun x hx hx' => rfl) (by omega) (Nat.le_refl _), e4, ?_⟩
            · cases a with
              | zero => exact hrc
              | succ a =>
                rw [row_succ, show i + (a + 1) = i + 1 + a by omega]
                rw [List.length_cons] at ha
                exact i5 a (by omega)
            · rw [wrap64 (by omega) (by omega)]
          clear hK
          have hfz : rf true 4 h (t 7) = some (.ro (L.map eRw)) := i7.frz (d := 2) fun x _ => rfs_rw
          have hLl : L.length ≤ 30 := by omega
          refine W.block ?_
          refine W.draw (k := 10) rfl ?_
          simp only [go_sem, a1, a2, e9, i6, l0, z0, List.length_map, cut_map, len_map (e := eIn) (sz := 1) (fun x => rfl), show (i : Int) ≤ (w.length : Int) by omega, hi]
          refine VCall.frzq (as' := [.agg (eGr g), .ro ((w.drop i).map eIn), .ro (L.map eRw)]) 5 ?_ h77 ?_
          · simp only [rfs, List.mapM_cons, hfz]
            rfl
          rcases i7 with ⟨w0, w5⟩ | ⟨b, w5, w1, w2, w3⟩
          · simp only [go_sem, w5, eR_len, eR_scal, show n ≤ n + 6 by omega, if_true]
            refine ⟨by kernel_rfl, ?_⟩
            refine nx _ _ _ (by omega) (by simp only [go_sem, z0, i6]) (.inr ⟨n + 10, by rw [w0]; rfl, by omega, by omega, by rw [w0]; simp only [go_sem]; rfl⟩) ⟨a1, a2⟩ e9
          · have zb : ∀ j, ¬ b = n + j := fun j => by omega
            have lb : ∀ j, (b < n + j) = True := fun j => eq_true (by omega)
            have tkL : (L.map eRw).take L.length = L.map eRw := List.take_of_length_le (by simp)
            simp only [go_sem, w5, w3, zb, lb, tkL, List.length_map, eR_len, eR_scal, show n ≤ n + 6 by omega, if_true, show (1 + L.length) * 100 ≤ 140737488355328 by omega, and_false, if_false, Nat.lt_irrefl]
            refine ⟨by kernel_rfl, ?_⟩
            refine nx _ _ _ (by omega) (by simp only [go_sem, z0, i6]) (.inr ⟨n + 10, by rw [List.length_cons, Nat.add_comm L.length]; rfl, by omega, by omega, by simp only [go_sem]; rfl⟩) ⟨a1, a2⟩ e9
    · simp only [go_sem, decide_eq_false hc]
      refine hK _ _ _ ?_
      first | clear hK K | clear hK | skip
      refine W.condT (by simp only [go_sem]) ?_
      refine W.rseq (k := 1) rfl fun K hK => ?_
      simp only [go_sem]
      refine hK _ _ _ ?_
      clear hK K
      refine W.ret ?_
      simp only [go_sem]
      have hfg : fitG g w = false := by rw [fitG, decide_eq_false hc, Bool.false_and]
      exact ⟨[], .inl ⟨rfl, rfl⟩, fun _ => rfl, fun e => by rw [hfg] at e; cases e⟩
  obtain ⟨r, h', n', hb, l, ho, q⟩ := fin
  exact ⟨l, ⟨_, h', n', hb, 5, fun fr => ho.frz (d := 3) fun x _ => rfs_rw⟩, q⟩

end Go.Av

