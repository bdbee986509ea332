/-
  Layer 9, the plain law: what the package tells is what the document tells. Conditions: none.
-/
import Derived.Test.YtiiogleijmcccaaB11
namespace Go.Av
open Go.Proofs
set_option linter.unusedSimpArgs false
set_option linter.unusedVariables false

/-- Ranks that may be. -/
def Bd (l : List Fc) (b : Int) : Prop := ∀ n : Int, 0 ≤ rk l n ∧ rk l n ≤ b

theorem rk_set {l : List Fc} {a : Nat} {f : Fc} {n : Int} : rk (l.set a f) n = if a = n.toNat ∧ a < l.length then f.1 else rk l n := by
  unfold rk
  rw [List.getD_eq_getElem?_getD, List.getD_eq_getElem?_getD, List.getElem?_set]
  by_cases h : a = n.toNat
  · subst h
    by_cases h2 : n.toNat < l.length
    · simp [h2]
    · simp [h2]
  · simp [h]

theorem off_set {l : List Fc} {left rank : Int} {i : Int} {terms : Bool} (h0 : rk l left = 0) {s : Sy} : off (l.set left.toNat (rank, i)) rank terms s = off l rank terms s := by
  unfold off
  split
  · rw [rk_set]
    by_cases h : left.toNat = s.n.toNat ∧ left.toNat < l.length
    · rw [if_pos h]
      have : rk l s.n = 0 := by
        rw [← h0]; unfold rk; rw [h.1]
      simp [this]
    · rw [if_neg h]
  · rfl

theorem fits_set {l : List Fc} {left rank : Int} {i : Int} {terms : Bool} (h0 : rk l left = 0) {p : Pr} : fits p (l.set left.toNat (rank, i)) rank terms = fits p l rank terms := by
  unfold fits
  congr 1
  exact congrArg (fun f => p.right.any f) (funext fun s => off_set h0)

theorem fits_fits0 {l : List Fc} {rank b : Int} {terms : Bool} (h : Bd l b) {p : Pr} : fits0 p l rank terms = fits p l rank terms := by
  unfold fits fits0
  congr 1
  refine congrArg (fun f => p.right.any f) (funext fun s => ?_)
  unfold off off0
  have := h s.n
  split
  · congr 1
    by_cases h1 : rk l s.n = 0
    · simp [h1]
    · simp [h1]; omega
  · rfl

theorem foldR_at {rank : Int} {terms : Bool} (hr : rank ≠ 0) : ∀ (xs : List Pr) (j : Nat) (s : List Fc × Bool) (F : Pr → Bool) (hF : ∀ p, fits p s.1 rank terms = F p) (h0 : ∀ p ∈ xs, 0 ≤ p.left) (x : Nat) (hx : x < s.1.length),
    ((xs.zipIdx j).foldl (stepR rank terms) s).1.getD x (0, 0) = if rk s.1 x = 0 then (match xs.findIdx? (fun p => decide (p.left = (x : Int)) && F p) with
      | some q => (rank, ((q + j : Nat) : Int))
      | none => s.1.getD x (0, 0)) else s.1.getD x (0, 0)
  | [], j, s, F, hF, h0, x, hx => by simp
  | p :: xs, j, s, F, hF, h0, x, hx => by
    rw [List.zipIdx_cons, List.foldl_cons, List.findIdx?_cons]
    have hp := h0 p (by simp)
    by_cases c : rk s.1 p.left = 0 ∧ fits p s.1 rank terms = true
    · have e : stepR rank terms s (p, j) = (s.1.set p.left.toNat (rank, (j : Int)), true) := by simp only [stepR, c, and_self, if_true]
      rw [e, foldR_at hr xs (j + 1) _ F (fun p' => by rw [← hF p']; exact fits_set c.1) (fun p' h' => h0 p' (by simp [h'])) x (by simpa using hx)]
      by_cases hpx : p.left = (x : Int)
      · have h1 : p.left.toNat = x := by omega
        have h2 : rk s.1 (x : Int) = 0 := by rw [← hpx]; exact c.1
        have h3 : F p = true := by rw [← hF p]; exact c.2
        have h4 : rk (s.1.set p.left.toNat (rank, (j : Int))) (x : Int) = rank := by
          rw [rk_set, if_pos ⟨by omega, by omega⟩]
        rw [h4, if_neg hr, h2, if_pos rfl]
        simp [hpx, h3, h1, hx, List.getD_eq_getElem?_getD]
      · have h1 : ¬ p.left.toNat = x := by omega
        have h4 : rk (s.1.set p.left.toNat (rank, (j : Int))) (x : Int) = rk s.1 x := by
          rw [rk_set, if_neg (by omega)]
        have h5 : (s.1.set p.left.toNat (rank, (j : Int))).getD x (0, 0) = s.1.getD x (0, 0) := by
          simp [List.getD_eq_getElem?_getD, List.getElem?_set, h1]
        simp only [h4, h5, hpx, decide_false, Bool.false_and, Bool.false_eq_true, if_false]
        split
        · cases xs.findIdx? (fun p => decide (p.left = (x : Int)) && F p) with
          | none => rfl
          | some q => simp; omega
        · rfl
    · have e : stepR rank terms s (p, j) = s := by simp only [stepR, c, if_false]
      rw [e, foldR_at hr xs (j + 1) s F hF (fun p' h' => h0 p' (by simp [h'])) x hx]
      by_cases h2 : rk s.1 (x : Int) = 0
      · have h3 : (decide (p.left = (x : Int)) && F p) = false := by
          rw [← hF p]
          by_cases hpx : p.left = (x : Int)
          · rw [hpx] at c; simpa [h2, hpx] using c
          · simp [hpx]
        simp only [h2, if_true, h3, Bool.false_eq_true, if_false]
        cases xs.findIdx? (fun p => decide (p.left = (x : Int)) && F p) with
        | none => rfl
        | some q => simp; omega
      · simp [h2]

theorem foldR_flag {rank : Int} {terms : Bool} : ∀ (xs : List (Pr × Nat)) (s : List Fc × Bool), (xs.foldl (stepR rank terms) s).2 = false → xs.foldl (stepR rank terms) s = s
  | [], s, _ => rfl
  | x :: xs, s, h => by
    rw [List.foldl_cons] at h ⊢
    have ih := foldR_flag xs _ h
    rw [ih] at h ⊢
    unfold stepR at h ⊢
    split
    · rename_i c; rw [if_pos c] at h; cases h
    · rfl

theorem round_next {g : Gr} {rank : Int} {terms : Bool} {l : List Fc} {b : Int} (hr : rank ≠ 0) (hb : Bd l b) (h : g.In l) : (round g rank terms l).1 = nextL g terms rank l := by
  refine List.ext_getElem (by rw [round_len, nextL_len]) fun x h1 h2 => ?_
  rw [round_len] at h1
  have e := foldR_at (terms := terms) hr g.prods 0 (l, false) (fun p => fits0 p l rank terms) (fun p => (fits_fits0 hb).symm) (fun p hp => (h p hp).1.1) x h1
  have e1 : (round g rank terms l).1.getD x (0, 0) = (round g rank terms l).1[x]'(by rw [round_len]; exact h1) := by simp [round_len, h1]
  rw [← e1]
  show ((g.prods.zipIdx).foldl (stepR rank terms) (l, false)).1.getD x (0, 0) = _
  rw [e]
  simp only [nextL, List.getElem_map, List.getElem_range, nextFrom, List.drop_zero]
  rfl

theorem Bd_next {g : Gr} {terms : Bool} {rank b : Int} {l : List Fc} (hb : Bd l b) (h1 : b ≤ rank) (h2 : 0 ≤ rank) : Bd (nextL g terms rank l) rank := by
  intro n
  have hn := hb n
  unfold rk at hn ⊢
  by_cases hx : n.toNat < l.length
  · have e : (nextL g terms rank l).getD n.toNat (0, 0) = nextFrom g l rank terms n.toNat 0 := by simp [nextL, hx, List.getD_eq_getElem?_getD]
    rw [e]
    unfold nextFrom
    split
    · split
      · simp only; omega
      · omega
    · omega
  · have e : (nextL g terms rank l).getD n.toNat (0, 0) = (0, 0) := by
      rw [List.getD_eq_getElem?_getD, List.getElem?_eq_none (by rw [nextL_len]; omega)]; rfl
    rw [e]; exact ⟨by decide, h2⟩

theorem next_stay {g : Gr} {terms : Bool} {rank rank' : Int} {l : List Fc} (hr : 1 ≤ rank) (hb : Bd l (rank - 1)) (h : nextL g terms rank l = l) (h' : rank ≤ rank') : nextL g terms rank' l = l := by
  refine List.ext_getElem (by rw [nextL_len]) fun x h1 h2 => ?_
  have e : (nextL g terms rank l)[x]'(by rw [nextL_len]; exact h2) = l[x] := List.getElem_of_eq h _
  simp only [nextL, List.getElem_map, List.getElem_range, nextFrom, List.drop_zero] at e ⊢
  have hf : ∀ p : Pr, fits0 p l rank' terms = fits0 p l rank terms := fun p => by
    unfold fits0
    congr 1
    refine congrArg (fun f => p.right.any f) (funext fun s => ?_)
    unfold off0
    have := hb s.n
    split
    · rw [decide_eq_false (p := rank' ≤ rk l s.n) (by omega), decide_eq_false (p := rank ≤ rk l s.n) (by omega)]
    · rfl
  simp only [hf]
  have hd : l.getD x (0, 0) = l[x] := by simp [h2]
  split
  · rename_i h0
    rw [if_pos h0] at e
    split
    · rename_i q hq
      rw [hq] at e
      simp only at e
      have : rk l (x : Int) = rank := by unfold rk; rw [Int.toNat_natCast, hd, ← e]
      omega
    · exact hd
  · exact hd

theorem iter_stay {g : Gr} {terms : Bool} {rank : Int} {l : List Fc} (hr : 1 ≤ rank) (hb : Bd l (rank - 1)) (h : nextL g terms rank l = l) : ∀ (m : Nat) (rank' : Int), rank ≤ rank' → iterR g terms m rank' l = l
  | 0, _, _ => rfl
  | m + 1, rank', h' => by rw [iterR, next_stay hr hb h h', iter_stay hr hb h m (rank' + 1) (by omega)]

theorem loop_iter {g : Gr} {terms : Bool} : ∀ (m : Nat) (rank : Int) (l : List Fc), 1 ≤ rank → Bd l (rank - 1) → g.In l → zeros l ≤ m → loopR g terms (m + 1) rank l = iterR g terms m rank l
  | 0, rank, l, hr, hb, hi, hz => by
    have h2 : (round g rank terms l).2 = false := by
      cases h : (round g rank terms l).2 with
      | false => rfl
      | true => have := round_zeros (by omega) hi h; omega
    have h3 : (round g rank terms l).1 = l := by
      have := foldR_flag _ _ h2
      exact congrArg (·.1) this
    rw [loopR, h2, if_neg (by simp), iterR, h3]
  | m + 1, rank, l, hr, hb, hi, hz => by
    have hn := round_next (terms := terms) (rank := rank) (by omega) hb hi
    cases h : (round g rank terms l).2 with
    | false =>
      have h3 : (round g rank terms l).1 = l := congrArg (·.1) (foldR_flag _ _ h)
      rw [loopR, h, if_neg (by simp), h3, iter_stay hr hb (by rw [← hn]; exact h3) _ _ (Int.le_refl _)]
    | true =>
      have := round_zeros (by omega) hi h
      rw [loopR, h, if_pos rfl, iterR, hn]
      refine loop_iter m (rank + 1) _ (by omega) ?_ (hi.of (by rw [nextL_len])) (by rw [← hn]; omega)
      rw [show rank + 1 - 1 = rank by omega]
      exact Bd_next hb (by omega) (by omega)

theorem Bd_zero {n : Nat} : Bd (List.replicate n (0, 0)) 0 := by
  intro k
  have : (List.replicate n ((0, 0) : Fc)).getD k.toNat (0, 0) = (0, 0) := by
    rw [List.getD_eq_getElem?_getD, List.getElem?_replicate]
    split <;> rfl
  unfold rk
  rw [this]; decide

theorem ranks_same (g : Gr) (terms : Bool) : ranksL g terms = ranksRef g terms := by
  unfold ranksL ranksRef
  cases h : right g with
  | false => rfl
  | true =>
    obtain ⟨hn, _⟩ := right_in h
    rw [if_pos rfl, if_pos rfl]
    exact loop_iter _ 1 _ (by omega) Bd_zero (right_In h (by simp; omega)) (by unfold zeros; exact Nat.le_trans (List.countP_le_length) (by simp))

end Go.Av
