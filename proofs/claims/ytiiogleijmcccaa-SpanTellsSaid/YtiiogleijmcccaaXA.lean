/-
  Texts X9, XA of this work, one behind the other. Conditions: none.
-/
import Derived.Test.YtiiogleijmcccaaX8

/-
  Layer 16: the calls whose answers the document fixes. Conditions: none.
-/
namespace Go.Av
open Go.Proofs
set_option maxRecDepth 100000
set_option linter.unusedSimpArgs false
set_option linter.unusedVariables false

def gX : Gr := ⟨2, 1, 0, [⟨0, [⟨false, 0⟩, ⟨true, 0⟩]⟩, ⟨0, []⟩]⟩

theorem gX_small : gX.Small := by
  refine ⟨by decide, fun p hp => ?_⟩
  simp [gX] at hp
  rcases hp with rfl | rfl <;> decide

theorem gX_right : right gX = true := by kernel_rfl

theorem checkX : checkL gX = (0, 0) := by
  have hs : stepsG gX = [] := by kernel_rfl
  have hc : cycB gX 0 = false := by
    cases h : cycB gX 0
    · rfl
    · obtain ⟨l, h1, h2⟩ := cycB_iff.1 h
      rw [hs] at h2
      cases l with
      | nil => exact absurd rfl h1
      | cons x l => cases h2.1
  have h3 : seek (cycB gX) gX.nons.toNat 0 = none := by
    show (if cycB gX 0 = true then some 0 else none) = none
    rw [hc]; rfl
  rw [checkL, show right gX = true by kernel_rfl, show seek (zR (ranksL gX true)) gX.nons.toNat 0 = none by kernel_rfl, show seek (zR (reachL gX)) gX.nons.toNat 0 = none by kernel_rfl, h3]
  rfl

def rowE (a o : Nat) : Nat → Nat := fun i => if i = 24 then o else if i = 0 then a else 0

theorem putE {a o : Nat} {r : Nat × Bool} : putR (rowE a o) 0 r = rowE (a ||| r.1) (if r.2 = true then o ||| 1 else o) := by
  funext i
  unfold putR rowE
  by_cases h1 : i = 24
  · simp [h1]
  · by_cases h2 : i = 0
    · simp [h2]
    · simp [h1, h2]

theorem rowE_inj {a o a' o' : Nat} (h : rowE a o = rowE a' o') : a = a' ∧ o = o' := ⟨congrFun h 0, congrFun h 24⟩

def chkA (w : List Int) (B : List (Nat → Nat)) (A O : List Nat) : Bool := A.all fun a => O.all fun o => gX.prods.all fun p => A.contains (a ||| (comesF w (rowE a o :: B) p).1) && O.contains (if (comesF w (rowE a o :: B) p).2 = true then o ||| 1 else o)

def chkB (w : List Int) (B : List (Nat → Nat)) (A O : List Nat) (a0 o0 : Nat) : Bool := A.all fun a => O.all fun o => !(gX.prods.all fun p => (a ||| (comesF w (rowE a o :: B) p).1) == a && (if (comesF w (rowE a o :: B) p).2 = true then o ||| 1 else o) == o) || (a == a0 && o == o0)

theorem rc_of {w : List Int} (hw : w.length ≤ 30) {B : List (Nat → Nat)} (hB : RcB gX w B) {A O : List Nat} {a0 o0 : Nat} (h0 : (A.contains 0 && O.contains 0) = true) (hA : chkA w B A O = true) (hb : chkB w B A O a0 o0 = true) : Rc gX w (rowE a0 o0) := by
  have hleft : ∀ p ∈ gX.prods, p.left.toNat = 0 := fun p hp => by
    simp [gX] at hp
    rcases hp with rfl | rfl <;> rfl
  have hrw : RwIn B := fun j i => by
    by_cases hj : j < w.length
    · exact (hB.2 j hj).1.1 i
    · have : B[j]? = none := List.getElem?_eq_none (by rw [hB.1]; omega)
      unfold rowAt
      rw [List.getD_eq_getElem?_getD, this]
      exact (by decide : 0 < 2 ^ 32)
  rw [Bool.and_eq_true, List.contains_iff_mem, List.contains_iff_mem] at h0
  have hr := gX_right
  obtain ⟨f, _, h2, ⟨h3, a, ha, o, ho, hf⟩, h4⟩ := f77 gX gX_small hr w hw B (by rw [hB.1]; exact hw) hrw (fun f => SndR gX w f ∧ ∃ a ∈ A, ∃ o ∈ O, f = rowE a o)
    ⟨⟨fun n hn c hc => by simp at hc, fun n hc => by simp at hc⟩, 0, h0.1, 0, h0.2, by funext i; simp [rowE]⟩
    fun f p hp ⟨hf, a, ha, o, ho, he⟩ => by
      refine ⟨put_sound hw hB hf hp (right_left hr hp) (right_syB hr hp), ?_⟩
      have h1 := List.all_eq_true.1 (List.all_eq_true.1 (List.all_eq_true.1 hA a ha) o ho) p hp
      rw [Bool.and_eq_true, List.contains_iff_mem, List.contains_iff_mem] at h1
      refine ⟨_, h1.1, _, h1.2, ?_⟩
      rw [hleft p hp, he, putE]
  have hrc := row_rc hr hw hB h4 h2 h3
  rw [hf] at hrc h4
  have h1 := List.all_eq_true.1 (List.all_eq_true.1 hb a ha) o ho
  rw [Bool.or_eq_true] at h1
  rcases h1 with h1 | h1
  · rw [Bool.not_eq_true'] at h1
    have h5 : (gX.prods.all fun p => (a ||| (comesF w (rowE a o :: B) p).1) == a && (if (comesF w (rowE a o :: B) p).2 = true then o ||| 1 else o) == o) = true := by
      refine List.all_eq_true.2 fun p hp => ?_
      have := h4 p hp
      rw [hleft p hp, putE] at this
      obtain ⟨q1, q2⟩ := rowE_inj this
      rw [Bool.and_eq_true, beq_iff_eq, beq_iff_eq]
      exact ⟨q1, q2⟩
    rw [h5] at h1
    cases h1
  · rw [Bool.and_eq_true, beq_iff_eq, beq_iff_eq] at h1
    rw [← h1.1, ← h1.2]
    exact hrc

theorem rc0 : Rc gX [] (rowE 1 1) := rc_of (by simp) (B := []) ⟨rfl, fun a ha => by simp at ha⟩ (A := [0, 1]) (O := [0, 1]) rfl (by kernel_rfl) (by kernel_rfl)

theorem rcb1 {t : Int} {f : Nat → Nat} {w : List Int} {B : List (Nat → Nat)} (h : Rc gX w f) (hB : RcB gX w B) : RcB gX (t :: w) (f :: B) := by
  refine ⟨by rw [List.length_cons, List.length_cons, hB.1], fun a ha => ?_⟩
  cases a with
  | zero => exact h
  | succ a => exact hB.2 a (by simpa using ha)

theorem rcb0 : RcB gX [] [] := ⟨rfl, fun a ha => by simp at ha⟩

theorem rc1 : Rc gX [0] (rowE 3 1) := rc_of (by simp) (rcb1 rc0 rcb0) (A := [0, 1, 2, 3]) (O := [0, 1]) rfl (by kernel_rfl) (by kernel_rfl)
theorem rc2 : Rc gX [0, 0] (rowE 7 1) := rc_of (by simp) (rcb1 rc1 (rcb1 rc0 rcb0)) (A := [0, 1, 6, 7]) (O := [0, 1]) rfl (by kernel_rfl) (by kernel_rfl)
theorem rc3 : Rc gX [1] (rowE 1 0) := rc_of (by simp) (rcb1 rc0 rcb0) (A := [0, 1]) (O := [0]) rfl (by kernel_rfl) (by kernel_rfl)
theorem rc4 : Rc gX [0, 1] (rowE 3 0) := rc_of (by simp) (rcb1 rc3 (rcb1 rc0 rcb0)) (A := [0, 1, 2, 3]) (O := [0]) rfl (by kernel_rfl) (by kernel_rfl)

theorem rowsX {t : Int} {f : Nat → Nat} {w : List Int} {l : List (Nat → Nat)} (h : Rc gX (t :: w) f) (hl : RowsC gX w l) : RowsC gX (t :: w) (f :: l) := by
  refine ⟨by rw [List.length_cons, List.length_cons, hl.1], fun a ha => ?_⟩
  cases a with
  | zero => exact h
  | succ a => exact hl.2 a (by simpa using ha)

theorem rows0 : RowsC gX [] [rowE 1 1] := ⟨rfl, fun a ha => by
  have : a = 0 := by simpa using ha
  subst this
  exact rc0⟩

theorem fitX {w : List Int} (h : fitsW gX w = true) : fitG gX w = true := by rw [fitG, checkX, h]; rfl

theorem f74X {w : List Int} {l : List (Nat → Nat)} (hw : w.length < 2 ^ 40) (hf : fitsW gX w = true) (hl : RowsC gX w l) : PF pg Tq 74 [.agg (eGr gX), .ro (w.map eIn)] (.ro (l.map eRw)) := by
  obtain ⟨l', h1, _, h2⟩ := f74 gX gX_small w hw
  rwa [(h2 (fitX hf)).uniq hl] at h1

theorem f77X {w : List Int} {f : Nat → Nat} {B : List (Nat → Nat)} (hw : w.length ≤ 30) (hB : RcB gX w B) (hf : Rc gX w f) : PF pg Tq 77 [.agg (eGr gX), .ro (w.map eIn), .ro (B.map eRw)] (.agg (eRw f)) := by
  obtain ⟨f', h1, h2⟩ := f77' gX gX_small gX_right w hw B hB
  rwa [h2.uniq hf] at h1

theorem eR_get0 {f : Nat → Nat} : (eRw f).take 1 = [.int .u32 (f 0 : Nat)] := eR_get (t := 0) (by decide)

set_option maxHeartbeats 8000000 in
theorem f70 : PF pg Tq 70 [] (.bool true) := by
  have h1 := f74X (w := [0, 0]) (by decide) (by kernel_rfl) (rowsX rc2 (rowsX rc1 rows0))
  have h2 := f74X (w := [0, 1]) (by decide) (by kernel_rfl) (rowsX rc4 (rowsX rc3 rows0))
  have h3 : PF pg Tq 74 [.agg (eGr gX), .ro (([2] : List Int).map eIn)] (.ro (([] : List (Nat → Nat)).map eRw)) := by
    obtain ⟨l', q1, q2, _⟩ := f74 gX gX_small [2] (by decide)
    rwa [q2 (by rw [fitG, checkX]; kernel_rfl)] at q1
  have h4 := f77X (w := [0, 0]) (by decide) (rcb1 rc1 (rcb1 rc0 rcb0)) rc2
  refine Fb ?_
  refine FH.of (N := 103) (rs := #[.tmp 0]) Try.func70 rfl rfl (of_decide_eq_true rfl) rfl (by decide) ?_
  refine W.rseq (k := 1) rfl fun K hK => ?_
  simp only [go_sem]
  refine hK _ _ _ ?_
  clear hK K
  refine W.rseq (k := 9) rfl fun K hK => ?_
  simp only [go_sem, show (0 : Nat) < 2 by omega, show ¬ (2 : Nat) = 0 by omega, show ¬ (1 : Nat) = 0 by omega, show (0 : Nat) < 1 by omega]
  refine hK _ _ _ ?_
  first | clear hK K | clear hK | skip
  refine W.rseq (k := 4) rfl fun K hK => ?_
  simp only [go_sem, show (0 : Nat) < 2 by omega, show ¬ (2 : Nat) = 0 by omega, show ¬ (1 : Nat) = 0 by omega, show (0 : Nat) < 1 by omega]
  refine VCall.frzq 20 (by kernel_rfl) h1 ?_
  simp only [go_sem]
  refine hK _ _ _ ?_
  first | clear hK K | clear hK | skip
  refine W.rseq (k := 4) rfl fun K hK => ?_
  simp only [go_sem, show (0 : Nat) < 2 by omega, show ¬ (2 : Nat) = 0 by omega, show ¬ (1 : Nat) = 0 by omega, show (0 : Nat) < 1 by omega]
  refine VCall.frzq 20 (by kernel_rfl) h2 ?_
  simp only [go_sem]
  refine hK _ _ _ ?_
  first | clear hK K | clear hK | skip
  have e71 : rowE 7 1 0 = 7 := rfl
  have e72 : rowE 7 1 24 = 1 := rfl
  have e10 : rowE 1 1 0 = 1 := rfl
  have e12 : rowE 1 1 24 = 1 := rfl
  have e31 : rowE 3 0 0 = 3 := rfl
  have e32 : rowE 3 0 24 = 0 := rfl
  have e21 : rowE 1 0 0 = 1 := rfl
  have e22 : rowE 1 0 24 = 0 := rfl
  refine W.dseq (k := 87) rfl fun K hK => ?_
  simp only [go_sem, List.append, List.map_cons, List.map_nil, eR_len, eR_get0, Int.natCast_zero, eR_get (show 24 < 25 by omega), e71, e72, e10, e12, e31, e32, e21, e22]
  refine VCall.frzq 20 (by kernel_rfl) h3 ?_
  have hall : (∀ (e : List AV), e ∈ [eRw (rowE 7 1), eRw (rowE 3 1), eRw (rowE 1 1)] → e.length = 25) = True := eq_true (by
    intro e he
    simp only [List.mem_cons, List.not_mem_nil, or_false] at he
    rcases he with rfl | rfl | rfl <;> exact eR_len)
  simp only [go_sem, List.map_nil, List.map_cons, eR_len, hall, show (3 : Nat) ≤ 3 by omega, show (1 : Nat) ≤ 3 by omega, and_self, if_true]
  refine VCall.frzq 20 (as' := [.agg (eGr gX), .ro (([0, 0] : List Int).map eIn), .ro ([rowE 3 1, rowE 1 1].map eRw)]) (by kernel_rfl) h4 ?_
  simp only [go_sem, eR_len, eR_tk, eqs_rw, eqR_self]
  refine hK _ _ _ _ (by kernel_rfl) ?_
  clear hK K
  refine W.ret ?_
  simp only [go_sem]

end Go.Av

/-
  Layer 16: a row hangs on nothing but its word. Conditions: none.
-/
namespace Go.Av
open Go.Proofs
set_option maxRecDepth 100000
set_option linter.unusedSimpArgs false
set_option linter.unusedVariables false

theorem below_drop {w : List Int} {m : Int} {a : Nat} (h : belowB w m = true) : belowB (w.drop a) m = true := by
  unfold belowB at h ⊢
  rw [List.all_eq_true] at h ⊢
  exact fun x hx => h x (List.drop_subset a w hx)

theorem fit_drop {g : Gr} {w : List Int} {a : Nat} (h : fitG g w = true) : fitG g (w.drop a) = true := by
  rw [fitG, fitsW, rightW, Bool.and_eq_true, Bool.and_eq_true, Bool.and_eq_true] at h ⊢
  obtain ⟨h1, ⟨h2, h3⟩, h4⟩ := h
  refine ⟨h1, ⟨decide_eq_true ?_, below_drop h3⟩, below_drop h4⟩
  have := of_decide_eq_true h2
  rw [List.length_drop]
  omega

theorem RowsC.drop {g : Gr} {w : List Int} {l : List (Nat → Nat)} (h : RowsC g w l) {a : Nat} (ha : a ≤ w.length) : RowsC g (w.drop a) (l.drop a) := by
  refine ⟨by rw [List.length_drop, List.length_drop, h.1]; omega, fun b hb => ?_⟩
  rw [List.length_drop] at hb
  have := h.2 (a + b) (by omega)
  rw [List.drop_drop]
  have e : rowAt (l.drop a) b = rowAt l (a + b) := by
    unfold rowAt
    rw [List.getD_eq_getElem?_getD, List.getD_eq_getElem?_getD, List.getElem?_drop]
  rw [e]; exact this

theorem RowsC.behind {g : Gr} {w : List Int} {l : List (Nat → Nat)} (h : RowsC g w l) {a : Nat} (ha : a ≤ w.length) : RcB g (w.drop a) (l.drop (a + 1)) := by
  refine ⟨by rw [List.length_drop, List.length_drop, h.1]; omega, fun b hb => ?_⟩
  rw [List.length_drop] at hb
  have := h.2 (a + 1 + b) (by rw [h.1]; omega)
  rw [List.drop_drop, show a + (b + 1) = a + 1 + b by omega]
  have e : rowAt (l.drop (a + 1)) b = rowAt l (a + 1 + b) := by
    unfold rowAt
    rw [List.getD_eq_getElem?_getD, List.getD_eq_getElem?_getD, List.getElem?_drop]
  rw [e]; exact this

theorem not_large {g : Gr} {w : List Int} (h : largeW g w = false) : w.length ≤ 40 := by
  rw [largeW, Bool.or_eq_false_iff] at h
  have := of_decide_eq_false h.2
  omega

set_option maxHeartbeats 8000000 in
theorem f21 (g : Gr) (hg : g.Small) (w : List Int) (k : Nat) (hk : k < 256) : FH pg Tq 21 [.agg (eGr g), .ro (w.map eIn), .int .u8 k] h0 0 fun r _ _ => r = .bool true := by
  refine FH.of (N := 64) (rs := #[.tmp 6]) Try.func21 rfl rfl (of_decide_eq_true rfl) rfl (by decide) ?_
  refine W.rseq (k := 2) rfl fun K hK => ?_
  simp only [go_sem]
  refine hK _ _ _ ?_
  clear hK K
  refine W.seq ?_
  refine W.rseq (k := 2) rfl fun K hK => ?_
  simp only [go_sem]
  refine VCall.frz 6 f70 rfl ?_
  try simp only [go_sem]
  refine hK _ _ _ ?_
  clear hK K
  refine W.condF (by simp only [go_sem]) ?_
  refine W.skip ?_
  simp only [go_sem]
  refine W.seq ?_
  refine W.rseq (k := 3) rfl fun K hK => ?_
  simp only [go_sem]
  refine VCall.frz 6 (f71 g hg w) rfl ?_
  try simp only [go_sem]
  refine hK _ _ _ ?_
  clear hK K
  cases hlg : largeW g w with
  | true =>
    refine W.condT (by simp only [go_sem, hlg]) ?_
    refine W.rseq (k := 1) rfl fun K hK => ?_
    simp only [go_sem]
    refine hK _ _ _ ?_
    clear hK K
    refine W.ret ?_
    simp only [go_sem]
  | false =>
  refine W.condF (by simp only [go_sem, hlg]) ?_
  refine W.skip ?_
  simp only [go_sem]
  have hw40 := not_large hlg
  obtain ⟨l, h74, hl0, hl1⟩ := f74 g hg w (by omega)
  refine W.rseq (k := 4) rfl fun K hK => ?_
  simp only [go_sem]
  refine VCall.frz 6 h74 rfl ?_
  try simp only [go_sem]
  refine hK _ _ _ ?_
  clear hK K
  cases hf : fitG g w with
  | false =>
    have hl := hl0 hf
    subst hl
    refine W.seq ?_
    refine W.rseq (k := 3) rfl fun K hK => ?_
    simp only [go_sem, List.map_nil]
    refine hK _ _ _ ?_
    clear hK K
    refine W.condT (by simp only [go_sem]) ?_
    refine W.rseq (k := 5) rfl fun K hK => ?_
    simp only [go_sem, hf]
    refine VCall.frz 6 (f76 g hg w (by omega)) rfl ?_
    try simp only [go_sem, hf]
    refine hK _ _ _ ?_
    clear hK K
    refine W.ret ?_
    simp only [go_sem]
  | true =>
  have hrc := hl1 hf
  have hll := hrc.1
  have hw24 := fit_len hf
  have hr := fit_right hf
  refine W.seq ?_
  refine W.rseq (k := 3) rfl fun K hK => ?_
  simp only [go_sem]
  refine hK _ _ _ ?_
  clear hK K
  refine W.condF (by simp only [go_sem]; exact congrArg (fun b => some (AV.bool b)) (decide_eq_false (by omega))) ?_
  refine W.skip ?_
  simp only [go_sem]
  refine W.seq ?_
  refine W.rseq (k := 6) rfl fun K hK => ?_
  simp only [go_sem, wrap64 (show -9223372036854775808 ≤ (w.length : Int) + 1 by omega) (by omega), decide_eq_true (show (l.length : Int) = (w.length : Int) + 1 by omega)]
  refine hK _ _ _ ?_
  clear hK K
  refine W.condF (by simp only [go_sem]) ?_
  refine W.skip ?_
  simp only [go_sem]
  refine W.rseq (k := 6) rfl fun K hK => ?_
  simp only [go_sem, wrap64 (show -9223372036854775808 ≤ (k : Int) by omega) (by omega), show ¬ (l.length : Int) = 0 by omega, ne_eq, not_false_eq_true, if_true, (Int.ofNat_tmod k l.length).symm]
  refine hK _ _ _ ?_
  clear hK K
  obtain ⟨a, ha⟩ : ∃ a, a = k % l.length := ⟨_, rfl⟩
  have hal : a ≤ w.length := by have := Nat.mod_lt k (show 0 < l.length by omega); omega
  rw [← ha]
  obtain ⟨m, h74a, _, hm1⟩ := f74 g hg (w.drop a) (by rw [List.length_drop]; omega)
  have hma := (hm1 (fit_drop hf)).uniq (hrc.drop hal)
  rw [hma] at h74a
  clear hm1 hma
  have hlda : (l.drop a).length < 2 ^ 30 := by rw [List.length_drop]; omega
  have h73 := f73 (l.drop a) hlda
  have h72 := f72 (l.drop a) (by omega)
  obtain ⟨f, h77, hfr⟩ := f77' g hg hr (w.drop a) (by rw [List.length_drop]; omega) (l.drop (a + 1)) (hrc.behind hal)
  have hfl := hfr.uniq (hrc.2 a (by omega))
  rw [hfl] at h77
  have hga := row_get (rows := l) (j := a) (by omega)
  refine W.dseq (k := 6) rfl fun K hK => ?_
  simp only [go_sem, List.length_map, cut_map, len_map (e := eIn) (sz := 1) (fun x => rfl), hal]
  refine VCall.frz 6 h74a rfl ?_
  simp only [go_sem]
  refine hK _ _ _ _ (by kernel_rfl) ?_
  clear hK K
  refine W.dseq (k := 24) rfl fun K hK => ?_
  simp only [go_sem]
  refine VCall.frz 6 h73 rfl ?_
  simp only [go_sem, List.length_map, cut_map, len_map (e := eRw) (sz := 25) (fun x => eR_len), show a ≤ l.length by omega]
  refine VCall.frz 6 h73 rfl ?_
  simp only [go_sem]
  refine VCall.frz 6 h72 rfl ?_
  simp only [go_sem, List.length_map, cut_map, len_map (e := eIn) (sz := 1) (fun x => rfl), len_map (e := eRw) (sz := 25) (fun x => eR_len), hal, show a + 1 ≤ l.length by omega, wrap64 (show -9223372036854775808 ≤ (a : Int) + 1 by omega) (by omega), show (0 : Int) ≤ (a : Int) + 1 by omega, show ((a : Int) + 1).toNat = a + 1 by omega, Nat.le_refl, and_self, if_true]
  refine VCall.frz 6 h77 rfl ?_
  simp only [go_sem, hga, eR_len, eR_tk, eqs_rw, eqR_self]
  refine hK _ _ _ _ (by kernel_rfl) ?_
  clear hK K
  refine W.ret ?_
  simp only [go_sem]

theorem f21' (g : Gr) (hg : g.Small) (w : List Int) (n : Int) (hn : 0 ≤ n ∧ n < 256) : FH pg Tq 21 [.agg (eGr g), .ro (w.map eIn), .int .u8 n] h0 0 fun r _ _ => r = .bool true := by
  obtain ⟨k, rfl⟩ := Int.eq_ofNat_of_zero_le hn.1
  exact f21 g hg w k (by omega)

end Go.Av
