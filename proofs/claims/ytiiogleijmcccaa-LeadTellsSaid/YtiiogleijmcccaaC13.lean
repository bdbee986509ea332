/-
  Layer 13, the plain law: steps at the left. Conditions: none.
-/
import Derived.Test.YtiiogleijmcccaaG1
import Derived.Test.YtiiogleijmcccaaC10b
namespace Go.Av
open Go.Proofs
set_option linter.unusedSimpArgs false
set_option linter.unusedVariables false

/-- A step: a production, a place; from which nonterminal it leads, and to which. -/
structure Lf where
  prod : Nat
  dot : Nat
  frm : Nat
  to : Nat

def eLf (x : Lf) : List AV := [.int .i64 x.prod, .int .i64 x.dot]
def eTo (x : Lf) : List AV := [.int .i64 x.frm, .int .i64 x.to]
def ent (x : Lf) : AV × AV := (.agg (eLf x), .agg (eTo x))

def stepsP (null : List Fc) (i left : Nat) : List Sy → Nat → List Lf
  | [], _ => []
  | s :: r, k => if s.non then ⟨i, k, left, s.n.toNat⟩ :: (if rk null s.n = 0 then [] else stepsP null i left r (k + 1)) else []

def stepsF (null : List Fc) (l : List (Pr × Nat)) : List Lf := l.flatMap fun x => stepsP null x.2 x.1.left.toNat x.1.right 0

def stepsG (g : Gr) : List Lf := stepsF (ranksL g false) g.prods.zipIdx

theorem zip_drop {g : Gr} {i : Nat} {p : Pr} (h : g.prods[i]? = some p) : g.prods.zipIdx.drop i = (p, i) :: g.prods.zipIdx.drop (i + 1) := by
  obtain ⟨hi, he⟩ := List.getElem?_eq_some_iff.1 h
  rw [List.drop_eq_getElem_cons (by simpa using hi)]
  congr 1
  rw [List.getElem_zipIdx, he]
  simp

/-- No two steps have the same place. -/
def Uq (L : List Lf) : Prop := ∀ x ∈ L, ∀ y ∈ L, x.prod = y.prod → x.dot = y.dot → x = y

/-- Ahead of a place. -/
def Ahead (L : List Lf) (i k : Nat) : Prop := ∀ y ∈ L, y.prod < i ∨ (y.prod = i ∧ y.dot < k)

theorem Uq.snoc {L : List Lf} {x : Lf} (h : Uq L) (a : Ahead L x.prod x.dot) : Uq (L ++ [x]) := by
  intro y hy z hz e1 e2
  simp only [List.mem_append, List.mem_singleton] at hy hz
  rcases hy with hy | rfl <;> rcases hz with hz | rfl
  · exact h y hy z hz e1 e2
  · have := a y hy; omega
  · have := a z hz; omega
  · rfl

theorem Ahead.snoc {L : List Lf} {x : Lf} (a : Ahead L x.prod x.dot) : Ahead (L ++ [x]) x.prod (x.dot + 1) := by
  intro y hy
  simp only [List.mem_append, List.mem_singleton] at hy
  rcases hy with hy | rfl
  · have := a y hy; omega
  · right; omega

theorem Ahead.next {L : List Lf} {i k : Nat} (a : Ahead L i k) : Ahead L (i + 1) 0 := by
  intro y hy
  have := a y hy; omega

theorem cell_lf {x y : Lf} : cellEq [.int .i64, .int .i64] (.agg (eLf x)) (.agg (eLf y)) = some (decide (x.prod = y.prod) && decide (x.dot = y.dot)) := by
  simp only [cellEq, cellsOf, eLf, eqs, eq1, and_self, if_true, Bool.and_true]
  have h1 : ((x.prod : Int) == (y.prod : Int)) = decide (x.prod = y.prod) := by rw [int_beq]; exact decide_eq_decide.2 Int.ofNat_inj
  have h2 : ((x.dot : Int) == (y.dot : Int)) = decide (x.dot = y.dot) := by rw [int_beq]; exact decide_eq_decide.2 Int.ofNat_inj
  rw [h1, h2]

theorem key_lf {x : Lf} : keyOK [.int .i64, .int .i64] (.agg (eLf x)) = true := by
  unfold keyOK; rw [cell_lf]; rfl

theorem find_no {x : Lf} : ∀ L : List Lf, Ahead L x.prod x.dot → find [.int .i64, .int .i64] (.agg (eLf x)) (L.map ent) = some none
  | [], _ => rfl
  | y :: L, h => by
    have h1 := h y (by simp)
    rw [List.map_cons, ent, find, cell_lf]
    have : (decide (x.prod = y.prod) && decide (x.dot = y.dot)) = false := by simp; omega
    rw [this]
    exact find_no L fun z hz => h z (by simp [hz])

theorem find_yes {x : Lf} : ∀ L : List Lf, Uq L → x ∈ L → find [.int .i64, .int .i64] (.agg (eLf x)) (L.map ent) = some (some (.agg (eTo x)))
  | [], _, h => by cases h
  | y :: L, hu, hx => by
    rw [List.map_cons, ent, find, cell_lf]
    by_cases e : x.prod = y.prod ∧ x.dot = y.dot
    · have := hu x hx y (by simp) e.1 e.2
      subst this
      simp
    · have h1 : (decide (x.prod = y.prod) && decide (x.dot = y.dot)) = false := by simp; omega
      rw [h1]
      rcases List.mem_cons.1 hx with rfl | hx
      · exact absurd ⟨rfl, rfl⟩ e
      · exact find_yes L (fun a ha b hb => hu a (by simp [ha]) b (by simp [hb])) hx

/-- Steps whose ends are nonterminals. -/
def LIn (M : Nat) (L : List Lf) : Prop := ∀ x ∈ L, x.frm < M ∧ x.to < M

theorem stepsP_in {null : List Fc} {M i left : Nat} (hl : left < M) : ∀ (r : List Sy) (k : Nat), (∀ s ∈ r, s.non = true → 0 ≤ s.n ∧ s.n < M) → ∀ x ∈ stepsP null i left r k, x.frm < M ∧ x.to < M
  | [], k, _, x, hx => by cases hx
  | s :: r, k, h, x, hx => by
    rw [stepsP] at hx
    split at hx
    · rename_i hn
      have hs := h s (by simp) hn
      rcases List.mem_cons.1 hx with rfl | hx
      · exact ⟨hl, by simp only; omega⟩
      · split at hx
        · cases hx
        · exact stepsP_in hl r (k + 1) (fun y hy => h y (by simp [hy])) x hx
    · cases hx

theorem steps_in {g : Gr} (hr : right g = true) : LIn g.nons.toNat (stepsG g) := by
  obtain ⟨h1, _, _, _, h5⟩ := right_in hr
  intro x hx
  simp only [stepsG, stepsF, List.mem_flatMap] at hx
  obtain ⟨⟨p, i⟩, hp, hx⟩ := hx
  obtain ⟨a, _, c⟩ := h5 p (List.fst_mem_of_mem_zipIdx hp)
  refine stepsP_in (by simp only; omega) p.right 0 (fun s hs hn => ?_) x hx
  have := c s hs
  rw [if_pos hn] at this
  omega

/-- A way: steps, one behind the other. -/
def Pth (L : List Lf) : Nat → Nat → List Lf → Prop
  | a, b, [] => a = b
  | a, b, x :: l => x ∈ L ∧ x.frm = a ∧ Pth L x.to b l

def Cyc (g : Gr) (n : Nat) : Prop := ∃ l, l ≠ [] ∧ Pth (stepsG g) n n l

noncomputable def cycB (g : Gr) (n : Nat) : Bool := @decide (Cyc g n) (Classical.propDecidable _)

theorem cycB_iff {g : Gr} {n : Nat} : cycB g n = true ↔ Cyc g n := by
  unfold cycB
  exact @decide_eq_true_iff _ (Classical.propDecidable _)

theorem Pth.app {L : List Lf} {b c : Nat} {m : List Lf} (h2 : Pth L b c m) : ∀ {a : Nat} {l : List Lf}, Pth L a b l → Pth L a c (l ++ m)
  | a, [], h => by
    have : a = b := h
    subst this; exact h2
  | a, x :: l, h => ⟨h.1, h.2.1, Pth.app h2 h.2.2⟩

/-- How far away: what holds of the numbers, at each time. -/
structure Aw (L : List Lf) (M to : Nat) (a : List Int) : Prop where
  len : a.length = M
  zero : a.getD to (-1) = 0
  low : ∀ n, -1 ≤ a.getD n (-1)
  only : ∀ n, a.getD n (-1) = 0 → n = to
  cnt : ∀ n, a.getD n (-1) < (a.countP fun d => decide (0 ≤ d) : Nat)
  by' : ∀ n, 0 < a.getD n (-1) → ∃ x ∈ L, x.frm = n ∧ 0 ≤ a.getD x.to (-1) ∧ a.getD x.to (-1) < a.getD n (-1)

/-- Closed. -/
def AwCl (L : List Lf) (a : List Int) : Prop := ∀ x ∈ L, 0 ≤ a.getD x.to (-1) → 0 ≤ a.getD x.frm (-1) ∧ a.getD x.frm (-1) ≤ a.getD x.to (-1) + 1

def awM (M : Nat) (a : List Int) : Nat := (a.map fun d => if d < 0 then M + 1 else d.toNat).sum

theorem getD_set {a : List Int} {i n : Nat} {v : Int} (h : i < a.length) : (a.set i v).getD n (-1) = if n = i then v else a.getD n (-1) := by
  rw [List.getD_eq_getElem?_getD, List.getElem?_set]
  by_cases e : i = n
  · rw [if_pos e, if_pos h, if_pos e.symm]; rfl
  · rw [if_neg e, if_neg (Ne.symm e), ← List.getD_eq_getElem?_getD]

theorem countP_set {p : Int → Bool} : ∀ {a : List Int} {i : Nat} {v : Int}, i < a.length → p v = true → (a.set i v).countP p = a.countP p + (if p (a.getD i (-1)) then 0 else 1)
  | [], i, v, h, _ => by simp at h
  | x :: a, 0, v, h, hv => by
    simp only [List.set_cons_zero, List.countP_cons, hv, List.getD_cons_zero, if_true]
    cases p x <;> simp
  | x :: a, i + 1, v, h, hv => by
    rw [List.set_cons_succ, List.countP_cons, List.countP_cons, countP_set (by simpa using h) hv, List.getD_cons_succ]
    omega

theorem awM_set {M : Nat} : ∀ {a : List Int} {i : Nat} {v : Int}, i < a.length → (if v < 0 then M + 1 else v.toNat) < (if a.getD i (-1) < 0 then M + 1 else (a.getD i (-1)).toNat) → awM M (a.set i v) < awM M a
  | [], i, v, h, _ => by simp at h
  | x :: a, 0, v, h, hv => by
    simp only [awM, List.set_cons_zero, List.map_cons, List.sum_cons, List.getD_cons_zero] at hv ⊢
    omega
  | x :: a, i + 1, v, h, hv => by
    rw [List.getD_cons_succ] at hv
    have := awM_set (by simpa using h) hv
    simp only [awM, List.set_cons_succ, List.map_cons, List.sum_cons] at this ⊢
    omega

/-- A number gets smaller. -/
theorem Aw.set {L : List Lf} {M to : Nat} {a : List Int} (h : Aw L M to a) {x : Lf} (hx : x ∈ L) (hL : LIn M L) (h0 : 0 ≤ a.getD x.to (-1)) (h1 : a.getD x.frm (-1) < 0 ∨ a.getD x.to (-1) + 1 < a.getD x.frm (-1)) :
    Aw L M to (a.set x.frm (a.getD x.to (-1) + 1)) ∧ awM M (a.set x.frm (a.getD x.to (-1) + 1)) < awM M a := by
  obtain ⟨k1, k2, k3, k4, k5, k6⟩ := h
  obtain ⟨hf, ht⟩ := hL x hx
  have hfl : x.frm < a.length := by omega
  obtain ⟨d, hd⟩ : ∃ d, d = a.getD x.to (-1) := ⟨_, rfl⟩
  rw [← hd] at h0 h1 ⊢
  have hcM : a.countP (fun d => decide (0 ≤ d)) ≤ M := by rw [← k1]; exact List.countP_le_length
  have hdc := k5 x.to
  rw [← hd] at hdc
  have hne : x.frm ≠ to := fun e => by rw [e, k2] at h1; omega
  have hnt : x.to ≠ x.frm := fun e => by rw [← e, ← hd] at h1; omega
  have hcs : (a.set x.frm (d + 1)).countP (fun d => decide (0 ≤ d)) = a.countP (fun d => decide (0 ≤ d)) + (if decide (0 ≤ a.getD x.frm (-1)) = true then 0 else 1) := countP_set hfl (by simp; omega)
  refine ⟨⟨by simpa using k1, ?_, fun n => ?_, fun n => ?_, fun n => ?_, fun n => ?_⟩, awM_set hfl ?_⟩
  · rw [getD_set hfl, if_neg (Ne.symm hne)]; exact k2
  · rw [getD_set hfl]; split
    · omega
    · exact k3 n
  · rw [getD_set hfl]; split
    · intro e; omega
    · exact k4 n
  · rw [hcs, getD_set hfl]
    have := k5 n
    have hif : (if decide (0 ≤ a.getD x.frm (-1)) = true then 0 else 1) = if 0 ≤ a.getD x.frm (-1) then 0 else 1 := by
      by_cases hp : 0 ≤ a.getD x.frm (-1) <;> simp only [hp, decide_true, decide_false, if_true, Bool.false_eq_true, if_false]
    rw [hif]
    by_cases hp : 0 ≤ a.getD x.frm (-1)
    · rw [if_pos hp]
      split
      · rename_i e
        rw [e] at this
        omega
      · omega
    · rw [if_neg hp]
      split
      · omega
      · omega
  · rw [getD_set hfl]
    split
    · rename_i e
      intro _
      refine ⟨x, hx, e.symm, ?_, ?_⟩
      · rw [getD_set hfl, if_neg hnt, ← hd]; exact h0
      · rw [getD_set hfl, if_neg hnt, ← hd]; omega
    · intro hp
      obtain ⟨y, hy, e1, e2, e3⟩ := k6 n hp
      refine ⟨y, hy, e1, ?_, ?_⟩
      · rw [getD_set hfl]; split
        · omega
        · exact e2
      · rw [getD_set hfl]; split
        · rename_i e4
          rw [e4] at e2 e3
          omega
        · exact e3
  · rw [if_neg (by omega)]
    split <;> omega

theorem path_aw {L : List Lf} {M to : Nat} {a : List Int} (h : Aw L M to a) (hc : AwCl L a) : ∀ (l : List Lf) (n : Nat), Pth L n to l → 0 ≤ a.getD n (-1)
  | [], n, hp => by
    have : n = to := hp
    rw [this, h.zero]; exact Int.le_refl 0
  | x :: l, n, ⟨hx, e, hp⟩ => by
    have := path_aw h hc l x.to hp
    rw [← e]
    exact (hc x hx this).1

end Go.Av
