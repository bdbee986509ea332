/-
  Texts Z8, Z9 of this work, one behind the other. Conditions: none.
-/
import Derived.Test.YtiiogleijmcccaaZ7

/-
  Layer 17: calls whose answers the document fixes. Conditions: none.
-/
namespace Go.Av
open Go.Proofs
set_option maxRecDepth 100000
set_option linter.unusedSimpArgs false
set_option linter.unusedVariables false

def gL : Gr := ⟨2, 2, 0, [⟨0, [⟨true, 1⟩, ⟨true, 1⟩]⟩, ⟨1, [⟨false, 0⟩]⟩, ⟨1, []⟩, ⟨1, [⟨false, 1⟩]⟩]⟩

theorem gL_small : gL.Small := by
  refine ⟨by decide, fun p hp => ?_⟩
  simp [gL] at hp
  rcases hp with rfl | rfl | rfl | rfl <;> decide

theorem gL_right : right gL = true := by kernel_rfl

theorem checkGL : checkL gL = (0, 0) := by
  have hs : stepsG gL = [⟨0, 0, 0, 1⟩, ⟨0, 1, 0, 1⟩] := by kernel_rfl
  have hf : ∀ x ∈ stepsG gL, x.frm = 0 ∧ x.to = 1 := by
    rw [hs]
    intro x hx
    simp at hx
    rcases hx with rfl | rfl <;> exact ⟨rfl, rfl⟩
  have hc : ∀ i, i < 2 → cycB gL i = false := by
    intro i hi
    cases h : cycB gL i
    · rfl
    · obtain ⟨l, h1, h2⟩ := cycB_iff.1 h
      cases l with
      | nil => exact absurd rfl h1
      | cons x l =>
        obtain ⟨q1, q2, q3⟩ := h2
        have h4 := hf x q1
        cases l with
        | nil =>
          have q3 : x.to = i := q3
          omega
        | cons y l =>
          obtain ⟨q4, q5, _⟩ := q3
          have h5 := hf y q4
          omega
  have h3 : seek (cycB gL) gL.nons.toNat 0 = none := by
    show (if cycB gL 0 = true then some 0 else if cycB gL 1 = true then some 1 else none) = none
    rw [hc 0 (by decide), hc 1 (by decide)]; rfl
  rw [checkL, show right gL = true by kernel_rfl, show seek (zR (ranksL gL true)) gL.nons.toNat 0 = none by kernel_rfl, show seek (zR (reachL gL)) gL.nons.toNat 0 = none by kernel_rfl, h3]
  rfl

def rowL (x : Nat × Nat × Nat) : Nat → Nat := fun i => if i = 24 then x.2.2 else if i = 0 then x.1 else if i = 1 then x.2.1 else 0

def stpL (w : List Int) (B : List (Nat → Nat)) (x : Nat × Nat × Nat) (p : Pr) : Nat × Nat × Nat :=
  let r := comesF w (rowL x :: B) p
  if p.left = 0 then (x.1 ||| r.1, x.2.1, if r.2 = true then x.2.2 ||| 1 else x.2.2) else (x.1, x.2.1 ||| r.1, if r.2 = true then x.2.2 ||| 2 else x.2.2)

theorem left_gL {p : Pr} (hp : p ∈ gL.prods) : p.left = 0 ∨ p.left = 1 := by
  simp [gL] at hp
  rcases hp with rfl | rfl | rfl | rfl
  · exact .inl rfl
  · exact .inr rfl
  · exact .inr rfl
  · exact .inr rfl

theorem put_stp {w : List Int} {B : List (Nat → Nat)} {x : Nat × Nat × Nat} {p : Pr} (hp : p ∈ gL.prods) : putR (rowL x) p.left.toNat (comesF w (rowL x :: B) p) = rowL (stpL w B x p) := by
  obtain ⟨r, hr⟩ : ∃ r, r = comesF w (rowL x :: B) p := ⟨_, rfl⟩
  funext i
  rw [stpL, ← hr]
  rcases left_gL hp with e | e
  · rw [e, if_pos rfl]
    show (if i = 24 then (if r.2 = true then rowL x 24 ||| 2 ^ 0 else rowL x 24) else if i = 0 then rowL x 0 ||| r.1 else rowL x i) = _
    by_cases h1 : i = 24
    · subst h1; rfl
    · by_cases h2 : i = 0
      · subst h2; rfl
      · simp only [rowL, h1, h2, if_false]
  · rw [e, if_neg (by decide)]
    show (if i = 24 then (if r.2 = true then rowL x 24 ||| 2 ^ 1 else rowL x 24) else if i = 1 then rowL x 1 ||| r.1 else rowL x i) = _
    by_cases h1 : i = 24
    · subst h1; rfl
    · by_cases h2 : i = 1
      · subst h2; rfl
      · simp only [rowL, h1, h2, if_false]

theorem snd_zero {w : List Int} : SndR gL w (rowL (0, 0, 0)) := by
  have e : rowL (0, 0, 0) = fun _ => 0 := by
    funext i
    simp [rowL]
  rw [e]
  exact ⟨fun n hn c hc => by simp at hc, fun n hc => by simp at hc⟩

theorem snd_step {w : List Int} (hw : w.length ≤ 30) {B : List (Nat → Nat)} (hB : RcB gL w B) {x y : Nat × Nat × Nat} {k : Nat} {p : Pr} (hs : SndR gL w (rowL x)) (hp : gL.prods[k]? = some p) (he : stpL w B x p = y) : SndR gL w (rowL y) := by
  have hm : p ∈ gL.prods := List.mem_of_getElem? hp
  rw [← he, ← put_stp hm]
  exact put_sound hw hB hs hm (right_left gL_right hm) (right_syB gL_right hm)

theorem rcL {w : List Int} (hw : w.length ≤ 30) {B : List (Nat → Nat)} (hB : RcB gL w B) {x : Nat × Nat × Nat} (hs : SndR gL w (rowL x)) (h32 : x.1 < 2 ^ 32 ∧ x.2.1 < 2 ^ 32 ∧ x.2.2 < 2 ^ 32) (hc : (gL.prods.all fun p => decide (stpL w B x p = x)) = true) : Rc gL w (rowL x) := by
  refine row_rc gL_right hw hB (fun p hp => ?_) ⟨fun i => ?_, fun i hi => ?_⟩ hs
  · rw [put_stp hp, of_decide_eq_true (List.all_eq_true.1 hc p hp)]
  · unfold rowL
    split
    · exact h32.2.2
    · split
      · exact h32.1
      · split
        · exact h32.2.1
        · decide
  · unfold rowL
    rw [if_neg (by omega), if_neg (by omega), if_neg (by omega)]

theorem rcbL {t : Int} {f : Nat → Nat} {w : List Int} {B : List (Nat → Nat)} (h : Rc gL w f) (hB : RcB gL w B) : RcB gL (t :: w) (f :: B) := by
  refine ⟨by rw [List.length_cons, List.length_cons, hB.1], fun a ha => ?_⟩
  cases a with
  | zero => exact h
  | succ a => exact hB.2 a (by simpa using ha)

theorem rcbL0 : RcB gL [] [] := ⟨rfl, fun a ha => by simp at ha⟩

theorem rcL0 : Rc gL [] (rowL (1, 1, 3)) := rcL (by decide) rcbL0 (snd_step (k := 0) (x := (0, 1, 2)) (by decide) rcbL0 (snd_step (k := 2) (x := (0, 0, 0)) (by decide) rcbL0 snd_zero rfl (by kernel_rfl)) rfl (by kernel_rfl)) (by decide) (by kernel_rfl)

theorem rcbL1 {t : Int} : RcB gL [t] [rowL (1, 1, 3)] := rcbL rcL0 rcbL0

theorem rcL1 : Rc gL [0] (rowL (3, 3, 3)) := rcL (by decide) rcbL1 (snd_step (k := 0) (x := (0, 3, 2)) (by decide) rcbL1 (snd_step (k := 2) (x := (0, 2, 2)) (by decide) rcbL1 (snd_step (k := 1) (x := (0, 0, 0)) (by decide) rcbL1 snd_zero rfl (by kernel_rfl)) rfl (by kernel_rfl)) rfl (by kernel_rfl)) (by decide) (by kernel_rfl)

theorem rcL2 : Rc gL [1] (rowL (3, 3, 3)) := rcL (by decide) rcbL1 (snd_step (k := 0) (x := (0, 3, 2)) (by decide) rcbL1 (snd_step (k := 2) (x := (0, 2, 2)) (by decide) rcbL1 (snd_step (k := 3) (x := (0, 0, 0)) (by decide) rcbL1 snd_zero rfl (by kernel_rfl)) rfl (by kernel_rfl)) rfl (by kernel_rfl)) (by decide) (by kernel_rfl)

theorem rcbL3 {t : Int} : RcB gL [t, 0] [rowL (3, 3, 3), rowL (1, 1, 3)] := rcbL rcL1 rcbL1

theorem rcL3 : Rc gL [0, 0] (rowL (7, 3, 1)) := rcL (by decide) rcbL3 (snd_step (k := 0) (x := (0, 3, 0)) (by decide) rcbL3 (snd_step (k := 2) (x := (0, 2, 0)) (by decide) rcbL3 (snd_step (k := 1) (x := (0, 0, 0)) (by decide) rcbL3 snd_zero rfl (by kernel_rfl)) rfl (by kernel_rfl)) rfl (by kernel_rfl)) (by decide) (by kernel_rfl)

theorem rcbL4 {t : Int} : RcB gL [t, 0, 0] [rowL (7, 3, 1), rowL (3, 3, 3), rowL (1, 1, 3)] := rcbL rcL3 rcbL3

theorem rcL4 : Rc gL [0, 0, 0] (rowL (7, 3, 0)) := rcL (by decide) rcbL4 (snd_step (k := 0) (x := (0, 3, 0)) (by decide) rcbL4 (snd_step (k := 2) (x := (0, 2, 0)) (by decide) rcbL4 (snd_step (k := 1) (x := (0, 0, 0)) (by decide) rcbL4 snd_zero rfl (by kernel_rfl)) rfl (by kernel_rfl)) rfl (by kernel_rfl)) (by decide) (by kernel_rfl)

theorem rowsL {t : Int} {f : Nat → Nat} {w : List Int} {l : List (Nat → Nat)} (h : Rc gL (t :: w) f) (hl : RowsC gL w l) : RowsC gL (t :: w) (f :: l) := by
  refine ⟨by rw [List.length_cons, List.length_cons, hl.1], fun a ha => ?_⟩
  cases a with
  | zero => exact h
  | succ a => exact hl.2 a (by simpa using ha)

theorem rowsL0 : RowsC gL [] [rowL (1, 1, 3)] := ⟨rfl, fun a ha => by
  have : a = 0 := by simpa using ha
  subst this
  exact rcL0⟩

theorem fitGL {w : List Int} (h : fitsW gL w = true) : fitG gL w = true := by rw [fitG, checkGL, h]; rfl

theorem f81L {w : List Int} {l : List (Nat → Nat)} {kind : Int} (hw : w.length < 2 ^ 40) (hf : fitsW gL w = true) (hl : RowsC gL w l) {R : Int × List Int} (hR : leadL gL w kind l = R) : PF pg Tq 81 [.agg (eGr gL), .ro (w.map eIn), .int .i64 kind] (.tup [.ro (R.2.map eIn), .int .i64 R.1]) := by
  obtain ⟨l', h1, h2, h3⟩ := f74 gL gL_small w hw
  have := f81 gL gL_small w kind l' h1 h2 h3
  rwa [(h3 (fitGL hf)).uniq hl, hR] at this

theorem leadL1 : leadL gL [0] 0 [rowL (3, 3, 3), rowL (1, 1, 3)] = (0, [0, 1, 2]) := by kernel_rfl
theorem leadL2 : leadL gL [0] 1 [rowL (3, 3, 3), rowL (1, 1, 3)] = (0, [0, 2, 1]) := by kernel_rfl
theorem leadL3 : leadL gL [1] 2 [rowL (3, 3, 3), rowL (1, 1, 3)] = (0, [0, 2, 3]) := by kernel_rfl
theorem leadL4 : leadL gL [0, 0, 0] 0 [rowL (7, 3, 0), rowL (7, 3, 1), rowL (3, 3, 3), rowL (1, 1, 3)] = (11, []) := by kernel_rfl
theorem leadL5 : leadL gL [0] 3 [rowL (3, 3, 3), rowL (1, 1, 3)] = (1, []) := by kernel_rfl

end Go.Av

/-
  Layer 17: by a word's rows the same is told. Conditions: none.
-/
namespace Go.Av
open Go.Proofs
set_option maxRecDepth 100000
set_option linter.unusedSimpArgs false
set_option linter.unusedVariables false

set_option maxHeartbeats 16000000 in
theorem f78 : PF pg Tq 78 [] (.bool true) := by
  have h1 := f81L (w := [0]) (kind := 0) (by decide) (by kernel_rfl) (rowsL rcL1 rowsL0) leadL1
  have h2 := f81L (w := [0]) (kind := 1) (by decide) (by kernel_rfl) (rowsL rcL1 rowsL0) leadL2
  have h3 := f81L (w := [1]) (kind := 2) (by decide) (by kernel_rfl) (rowsL rcL2 rowsL0) leadL3
  have h4 := f81L (w := [0, 0, 0]) (kind := 0) (by decide) (by kernel_rfl) (rowsL rcL4 (rowsL rcL3 (rowsL rcL1 rowsL0))) leadL4
  have h5 := f81L (w := [0]) (kind := 3) (by decide) (by kernel_rfl) (rowsL rcL1 rowsL0) leadL5
  refine Fb ?_
  refine FH.of (N := 90) (rs := #[.tmp 0]) Try.func78 rfl rfl (of_decide_eq_true rfl) rfl (by decide) ?_
  refine W.rseq (k := 1) rfl fun K hK => ?_
  simp only [go_sem]
  refine hK _ _ _ ?_
  clear hK K
  refine W.rseq (k := 3) rfl fun K hK => ?_
  simp only [go_sem]
  refine hK _ _ _ ?_
  clear hK K
  refine W.rseq (k := 15) rfl fun K hK => ?_
  simp only [go_sem, show (0 : Nat) < 2 by omega, show ¬ (2 : Nat) = 0 by omega, show ¬ (1 : Nat) = 0 by omega, show (0 : Nat) < 1 by omega, show ¬ (4 : Nat) = 0 by omega]
  refine hK _ _ _ ?_
  first | clear hK K | clear hK | skip
  refine W.rseq (k := 8) rfl fun K hK => ?_
  simp only [go_sem, show (0 : Nat) < 2 by omega, show ¬ (2 : Nat) = 0 by omega, show ¬ (1 : Nat) = 0 by omega, show (0 : Nat) < 1 by omega]
  refine VCall.frzq 20 (by kernel_rfl) h1 ?_
  simp only [go_sem]
  refine hK _ _ _ ?_
  first | clear hK K | clear hK | skip
  refine W.rseq (k := 8) rfl fun K hK => ?_
  simp only [go_sem, show (0 : Nat) < 2 by omega, show ¬ (2 : Nat) = 0 by omega, show ¬ (1 : Nat) = 0 by omega, show (0 : Nat) < 1 by omega]
  refine VCall.frzq 20 (by kernel_rfl) h2 ?_
  simp only [go_sem]
  refine hK _ _ _ ?_
  first | clear hK K | clear hK | skip
  refine W.rseq (k := 8) rfl fun K hK => ?_
  simp only [go_sem, show (0 : Nat) < 2 by omega, show ¬ (2 : Nat) = 0 by omega, show ¬ (1 : Nat) = 0 by omega, show (0 : Nat) < 1 by omega]
  refine VCall.frzq 20 (by kernel_rfl) h3 ?_
  simp only [go_sem]
  refine hK _ _ _ ?_
  first | clear hK K | clear hK | skip
  refine W.rseq (k := 8) rfl fun K hK => ?_
  simp only [go_sem, show (0 : Nat) < 2 by omega, show ¬ (2 : Nat) = 0 by omega, show ¬ (1 : Nat) = 0 by omega, show (0 : Nat) < 1 by omega, show ¬ (3 : Nat) = 0 by omega]
  refine VCall.frzq 20 (by kernel_rfl) h4 ?_
  simp only [go_sem]
  refine hK _ _ _ ?_
  first | clear hK K | clear hK | skip
  refine W.rseq (k := 8) rfl fun K hK => ?_
  simp only [go_sem, show (0 : Nat) < 2 by omega, show ¬ (2 : Nat) = 0 by omega, show ¬ (1 : Nat) = 0 by omega, show (0 : Nat) < 1 by omega]
  refine VCall.frzq 20 (by kernel_rfl) h5 ?_
  simp only [go_sem]
  refine hK _ _ _ ?_
  first | clear hK K | clear hK | skip
  have q1 : PF pg Tq 59 [.ro (([0, 1, 2] : List Int).map eIn), .ro (([0, 1, 2] : List Int).map eIn)] (.bool true) := f59 [0, 1, 2] [0, 1, 2] (by decide) (by decide)
  have q2 : PF pg Tq 59 [.ro (([0, 2, 1] : List Int).map eIn), .ro (([0, 2, 1] : List Int).map eIn)] (.bool true) := f59 [0, 2, 1] [0, 2, 1] (by decide) (by decide)
  have q3 : PF pg Tq 59 [.ro (([0, 2, 3] : List Int).map eIn), .ro (([0, 2, 3] : List Int).map eIn)] (.bool true) := f59 [0, 2, 3] [0, 2, 3] (by decide) (by decide)
  refine W.rseq (k := 34) rfl fun K hK => ?_
  simp only [go_sem, show (0 : Nat) < 2 by omega, show ¬ (2 : Nat) = 0 by omega, show ¬ (1 : Nat) = 0 by omega, show (0 : Nat) < 1 by omega, show ¬ (3 : Nat) = 0 by omega]
  refine VCall.frzq 20 (by kernel_rfl) q1 ?_
  simp only [go_sem, show ¬ (3 : Nat) = 0 by omega]
  refine VCall.frzq 20 (by kernel_rfl) q2 ?_
  simp only [go_sem, show ¬ (3 : Nat) = 0 by omega]
  refine VCall.frzq 20 (by kernel_rfl) q3 ?_
  simp only [go_sem]
  refine hK _ _ _ ?_
  first | clear hK K | clear hK | skip
  refine W.ret ?_
  simp only [go_sem]

theorem run_len {g : Gr} {w : List Int} {rows : List (Nat → Nat)} {kind : Int} : ∀ (k : Nat) (T : List Lt) (a : Nat) (out : List Int), out.length ≤ 2000 → (runL g w rows kind k T a out).2.length ≤ 2000
  | 0, _, _, _, _ => Nat.zero_le _
  | _ + 1, [], _, _, h => h
  | k + 1, x :: T, a, out, h => by
    cases hx : x.1.non
    · rw [run_term hx]
      exact run_len k _ _ _ h
    · by_cases ho : out.length = 2000
      · rw [run_big hx ho]
        exact Nat.zero_le _
      · cases ht : tryL g w rows kind T a (candL g w kind a x.1.n) with
        | none => rw [run_none hx ho ht]; exact Nat.zero_le _
        | some cL =>
          obtain ⟨c, L⟩ := cL
          rw [run_some hx ho ht]
          exact run_len k _ _ _ (by rw [List.length_append, List.length_singleton]; omega)

theorem by_len {g : Gr} {w : List Int} {kind : Int} {l : List (Nat → Nat)} : (byL g w kind l).2.length ≤ 2000 := by
  unfold byL
  split
  · exact run_len _ _ _ _ (Nat.zero_le _)
  · exact Nat.zero_le _

end Go.Av
