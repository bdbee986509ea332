/-
  Layer 10, the plain law: what the package tells is what the document tells; it shows, is closed, and is the least. Conditions: none.
-/
import Derived.Test.YtiiogleijmcccaaR5
namespace Go.Av
open Go.Proofs
set_option linter.unusedSimpArgs false
set_option linter.unusedVariables false

def nextX (g : Gr) (rank : Int) (l : List Fc) (x : Nat) : Fc :=
  if rk l x = 0 then match g.prods.findIdx? (fun p => decide (rk l p.left = rank) && stands p x) with
    | some q => (rank + 1, (q : Int))
    | none => l.getD x (0, 0)
  else l.getD x (0, 0)

def nextRL (g : Gr) (rank : Int) (l : List Fc) : List Fc := (List.range l.length).map (nextX g rank l)

theorem nextRL_len {g : Gr} {rank : Int} {l : List Fc} : (nextRL g rank l).length = l.length := by simp [nextRL]

def SameAt (rank : Int) (l l' : List Fc) : Prop := ∀ n : Int, rk l' n = rank ↔ rk l n = rank

theorem same_set {rank v i : Int} {l : List Fc} {a : Nat} (h1 : 1 ≤ rank) (h0 : rk l (a : Int) = 0) (hv : v ≠ rank) : SameAt rank l (l.set a (v, i)) := by
  intro n
  rw [rk_set]
  split
  · rename_i e
    have : rk l n = 0 := by rw [← h0]; unfold rk; rw [Int.toNat_natCast, e.1]
    simp only [this]
    omega
  · exact Iff.rfl

theorem foldS_at {rank : Int} (hr : 1 ≤ rank) {j : Nat} : ∀ (ys : List Sy) (s : List Fc × Bool), (∀ y ∈ ys, y.non = true → 0 ≤ y.n) → 
    (∀ x, x < s.1.length → (ys.foldl (reachS rank j) s).1.getD x (0, 0) = if rk s.1 x = 0 ∧ ys.any (isN x) = true then (rank + 1, (j : Int)) else s.1.getD x (0, 0)) ∧ SameAt rank s.1 (ys.foldl (reachS rank j) s).1
  | [], s, _ => ⟨fun x hx => by simp, fun n => Iff.rfl⟩
  | y :: ys, s, h => by
    rw [List.foldl_cons]
    have hy := h y (by simp)
    by_cases c : y.non = true ∧ rk s.1 y.n = 0
    · have e : reachS rank j s y = (s.1.set y.n.toNat (rank + 1, (j : Int)), true) := by simp only [reachS, c, and_self, if_true]
      have hn : ((y.n.toNat : Nat) : Int) = y.n := by have := hy c.1; omega
      obtain ⟨ih1, ih2⟩ := foldS_at hr ys (s.1.set y.n.toNat (rank + 1, (j : Int)), true) (fun y hy => h y (by simp [hy]))
      rw [e]
      refine ⟨fun x hx => ?_, fun n => (ih2 n).trans (same_set hr (by rw [hn]; exact c.2) (by omega) n)⟩
      rw [ih1 x (by simpa using hx)]
      by_cases ex : y.n = (x : Int)
      · have ex' : y.n.toNat = x := by omega
        have r1 : rk (s.1.set y.n.toNat (rank + 1, (j : Int))) (x : Int) = rank + 1 := by rw [rk_set, if_pos ⟨by omega, by omega⟩]
        have r2 : rk s.1 (x : Int) = 0 := by rw [← ex]; exact c.2
        have r3 : (y :: ys).any (isN x) = true := by simp [isN, c.1, ex]
        rw [r1, r2, r3, if_neg (by intro h; have := h.1; omega), if_pos ⟨rfl, rfl⟩]
        simp [ex', hx, List.getD_eq_getElem?_getD]
      · have ex' : ¬ y.n.toNat = x := by omega
        have r1 : rk (s.1.set y.n.toNat (rank + 1, (j : Int))) (x : Int) = rk s.1 x := by rw [rk_set, if_neg (by omega)]
        have r3 : (y :: ys).any (isN x) = ys.any (isN x) := by simp [isN, ex]
        have r4 : (s.1.set y.n.toNat (rank + 1, (j : Int))).getD x (0, 0) = s.1.getD x (0, 0) := by simp [List.getD_eq_getElem?_getD, List.getElem?_set, ex']
        rw [r1, r3, r4]
    · have e : reachS rank j s y = s := by simp only [reachS, c, if_false]
      obtain ⟨ih1, ih2⟩ := foldS_at hr ys s (fun y hy => h y (by simp [hy]))
      rw [e]
      refine ⟨fun x hx => ?_, ih2⟩
      rw [ih1 x hx]
      by_cases hz : rk s.1 (x : Int) = 0
      · have r3 : isN x y = false := by
          unfold isN
          by_cases hn : y.non = true
          · by_cases hx : y.n = (x : Int)
            · exact (c ⟨hn, by rw [hx]; exact hz⟩).elim
            · simp [hx]
          · simp [hn]
        have r4 : (y :: ys).any (isN x) = ys.any (isN x) := by simp [r3]
        rw [r4]
      · simp [hz]

theorem foldP_at {rank : Int} (hr : 1 ≤ rank) {l : List Fc} : ∀ (ps : List Pr) (j : Nat) (s : List Fc × Bool), SameAt rank l s.1 → (∀ p ∈ ps, ∀ y ∈ p.right, y.non = true → 0 ≤ y.n) → ∀ x, x < s.1.length →
    ((ps.zipIdx j).foldl (reachP rank) s).1.getD x (0, 0) = if rk s.1 x = 0 then (match ps.findIdx? (fun p => decide (rk l p.left = rank) && stands p x) with
      | some q => (rank + 1, ((q + j : Nat) : Int))
      | none => s.1.getD x (0, 0)) else s.1.getD x (0, 0)
  | [], j, s, _, _, x, hx => by simp
  | p :: ps, j, s, hS, h, x, hx => by
    rw [List.zipIdx_cons, List.foldl_cons, List.findIdx?_cons]
    by_cases c : rk s.1 p.left = rank
    · have e : reachP rank s (p, j) = p.right.foldl (reachS rank j) s := by simp only [reachP, c, if_true]
      have cl : rk l p.left = rank := (hS _).1 c
      obtain ⟨a1, a2⟩ := foldS_at hr (j := j) p.right s (h p (by simp))
      have hlen : (p.right.foldl (reachS rank j) s).1.length = s.1.length := foldS_len _ _
      rw [e, foldP_at hr ps (j + 1) _ (fun n => (a2 n).trans (hS n)) (fun q hq => h q (by simp [hq])) x (by rw [hlen]; exact hx)]
      have hrk : rk (p.right.foldl (reachS rank j) s).1 x = (if rk s.1 x = 0 ∧ p.right.any (isN x) = true then rank + 1 else rk s.1 x) := by
        have := congrArg (·.1) (a1 x hx)
        unfold rk
        rw [Int.toNat_natCast, this]
        split
        · rename_i hh; rw [if_pos]; unfold rk at hh; simpa using hh
        · rename_i hh; rw [if_neg]; unfold rk at hh; simpa using hh
      rw [a1 x hx, hrk]
      by_cases hz : rk s.1 (x : Int) = 0
      · by_cases hst : p.right.any (isN x) = true
        · have hst' : stands p x = true := hst
          simp only [hz, hst, and_self, if_true, cl, decide_true, hst', Bool.and_self]
          rw [if_neg (by omega)]
          simp
        · have hst' : stands p x = false := by unfold stands; simpa using hst
          simp only [hz, hst, and_false, if_false, if_true, cl, decide_true, hst', Bool.and_false, Bool.false_eq_true]
          cases ps.findIdx? (fun p => decide (rk l p.left = rank) && stands p x) with
          | none => rfl
          | some q => simp; omega
      · simp [hz]
    · have e : reachP rank s (p, j) = s := by simp only [reachP, c, if_false]
      have cl : ¬ rk l p.left = rank := fun h => c ((hS _).2 h)
      rw [e, foldP_at hr ps (j + 1) s hS (fun q hq => h q (by simp [hq])) x hx]
      by_cases hz : rk s.1 (x : Int) = 0
      · simp only [hz, if_true, cl, decide_false, Bool.false_and, Bool.false_eq_true, if_false]
        cases ps.findIdx? (fun p => decide (rk l p.left = rank) && stands p x) with
        | none => rfl
        | some q => simp; omega
      · simp [hz]

theorem reachR_next {g : Gr} {rank : Int} {l : List Fc} (hr : 1 ≤ rank) (h : g.In l) : (reachR g rank l).1 = nextRL g rank l := by
  refine List.ext_getElem (by rw [reachR_len, nextRL_len]) fun x h1 h2 => ?_
  rw [reachR_len] at h1
  have e := foldP_at hr g.prods 0 (l, false) (fun n => Iff.rfl) (fun p hp y hy hn => ((h p hp).2 y hy hn).1) x h1
  have e1 : (reachR g rank l).1.getD x (0, 0) = (reachR g rank l).1[x]'(by rw [reachR_len]; exact h1) := by simp [reachR_len, h1]
  rw [← e1]
  show ((g.prods.zipIdx).foldl (reachP rank) (l, false)).1.getD x (0, 0) = _
  rw [e]
  simp only [nextRL, List.getElem_map, List.getElem_range, nextX]
  rfl

theorem refN_same {g : Gr} {rank : Int} {l : List Fc} {x : Nat} (hr : 1 ≤ rank) : SameAt rank l (refN g (rank + 1) l x) := by
  unfold refN
  split
  · rename_i h0
    split
    · exact same_set hr h0 (by omega)
    · exact fun n => Iff.rfl
  · exact fun n => Iff.rfl

theorem foldN_at {g : Gr} {rank : Int} (hr : 1 ≤ rank) {l : List Fc} : ∀ k, k ≤ l.length → SameAt rank l ((List.range k).foldl (refN g (rank + 1)) l) ∧
    ∀ x, x < l.length → ((List.range k).foldl (refN g (rank + 1)) l).getD x (0, 0) = if x < k then nextX g rank l x else l.getD x (0, 0)
  | 0, _ => ⟨fun n => Iff.rfl, fun x _ => by simp⟩
  | k + 1, hk => by
    obtain ⟨i1, i2⟩ := foldN_at (g := g) hr (l := l) k (by omega)
    rw [List.range_succ, List.foldl_append, List.foldl_cons, List.foldl_nil]
    have hlen : ((List.range k).foldl (refN g (rank + 1)) l).length = l.length := foldN_len _ _
    generalize (List.range k).foldl (refN g (rank + 1)) l = s at *
    refine ⟨fun n => (refN_same hr n).trans (i1 n), fun x hx => ?_⟩
    have hk1 := i2 k (by omega)
    rw [if_neg (by omega)] at hk1
    have hkr : rk s (k : Int) = rk l k := by unfold rk; rw [Int.toNat_natCast, hk1]
    have hQ : refQ (rank + 1) s k = fun p => decide (rk l p.left = rank) && stands p k := by
      funext p
      unfold refQ
      rw [show rank + 1 - 1 = rank by omega, Bool.and_comm]
      congr 1
      exact decide_eq_decide.2 (i1 _)
    by_cases e : x = k
    · subst e
      rw [if_pos (by omega)]
      unfold refN nextX
      rw [hkr, hQ]
      split
      · split
        · rename_i q hq; rw [hq]; simp [hlen, hx, List.getD_eq_getElem?_getD]
        · rename_i hq; rw [hq]; exact hk1
      · exact hk1
    · have : (refN g (rank + 1) s k).getD x (0, 0) = s.getD x (0, 0) := by
        unfold refN
        split
        · split
          · simp [List.getD_eq_getElem?_getD, List.getElem?_set, Ne.symm e]
          · rfl
        · rfl
      rw [this, i2 x hx]
      by_cases h1 : x < k
      · rw [if_pos h1, if_pos (by omega)]
      · rw [if_neg h1, if_neg (by omega)]

theorem refR_next {g : Gr} {rank : Int} {l : List Fc} (hr : 1 ≤ rank) : refR g (rank + 1) l = nextRL g rank l := by
  refine List.ext_getElem (by rw [refR_len, nextRL_len]) fun x h1 h2 => ?_
  rw [refR_len] at h1
  have e := (foldN_at (g := g) hr (l := l) l.length (Nat.le_refl _)).2 x h1
  have e1 : (refR g (rank + 1) l).getD x (0, 0) = (refR g (rank + 1) l)[x]'(by rw [refR_len]; exact h1) := by simp [refR_len, h1]
  rw [← e1]
  unfold refR
  rw [e, if_pos h1]
  simp only [nextRL, List.getElem_map, List.getElem_range]

theorem foldS_flag {rank : Int} {j : Nat} : ∀ (ys : List Sy) (s : List Fc × Bool), (ys.foldl (reachS rank j) s).2 = false → ys.foldl (reachS rank j) s = s
  | [], s, _ => rfl
  | y :: ys, s, h => by
    rw [List.foldl_cons] at h ⊢
    have ih := foldS_flag ys _ h
    rw [ih] at h ⊢
    unfold reachS at h ⊢
    split
    · rename_i c; rw [if_pos c] at h; cases h
    · rfl

theorem foldP_flag {rank : Int} : ∀ (xs : List (Pr × Nat)) (s : List Fc × Bool), (xs.foldl (reachP rank) s).2 = false → xs.foldl (reachP rank) s = s
  | [], s, _ => rfl
  | x :: xs, s, h => by
    rw [List.foldl_cons] at h ⊢
    have ih := foldP_flag xs _ h
    rw [ih] at h ⊢
    unfold reachP at h ⊢
    split
    · rename_i c; rw [if_pos c] at h; exact foldS_flag _ _ h
    · rfl

theorem rk_nextRL {g : Gr} {rank : Int} {l : List Fc} {n : Int} : rk (nextRL g rank l) n = rk l n ∨ (rk l n = 0 ∧ rk (nextRL g rank l) n = rank + 1) := by
  unfold rk
  by_cases hx : n.toNat < l.length
  · have e : (nextRL g rank l).getD n.toNat (0, 0) = nextX g rank l n.toNat := by simp [nextRL, hx, List.getD_eq_getElem?_getD]
    rw [e]
    unfold nextX
    split
    · rename_i h0
      split
      · exact .inr ⟨by unfold rk at h0; rwa [Int.toNat_natCast] at h0, rfl⟩
      · exact .inl rfl
    · exact .inl rfl
  · have e : (nextRL g rank l).getD n.toNat (0, 0) = (0, 0) := by
      rw [List.getD_eq_getElem?_getD, List.getElem?_eq_none (by rw [nextRL_len]; omega)]; rfl
    have e2 : l.getD n.toNat (0, 0) = (0, 0) := by
      rw [List.getD_eq_getElem?_getD, List.getElem?_eq_none (by omega)]; rfl
    rw [e, e2]; exact .inl rfl

theorem Bd_nextRL {g : Gr} {rank : Int} {l : List Fc} (hr : 1 ≤ rank) (hb : Bd l rank) : Bd (nextRL g rank l) (rank + 1) := by
  intro n
  have := hb n
  rcases rk_nextRL (g := g) (rank := rank) (l := l) (n := n) with e | ⟨_, e⟩ <;> rw [e] <;> omega

theorem nextRL_top {g : Gr} {rank b : Int} {l : List Fc} (hb : Bd l b) (h : b < rank) : nextRL g rank l = l := by
  refine List.ext_getElem (by rw [nextRL_len]) fun x h1 h2 => ?_
  simp only [nextRL, List.getElem_map, List.getElem_range, nextX]
  have : g.prods.findIdx? (fun p => decide (rk l p.left = rank) && stands p x) = none := by
    rw [List.findIdx?_eq_none_iff]
    intro p _
    have := hb p.left
    simp; omega
  rw [this]
  have hd : l.getD x (0, 0) = l[x] := by simp [h2]
  split <;> exact hd

theorem refLoop_stay {g : Gr} {l : List Fc} {b : Int} (hb : Bd l b) : ∀ (m : Nat) (rank : Int), 1 ≤ rank → b < rank → refLoop g m (rank + 1) l = l
  | 0, _, _, _ => rfl
  | m + 1, rank, h1, h => by rw [refLoop, refR_next h1, nextRL_top hb h, refLoop_stay hb m (rank + 1) (by omega) (by omega)]

theorem reach_loop {g : Gr} : ∀ (m k : Nat) (rank : Int) (l : List Fc), 1 ≤ rank → Bd l rank → g.In l → zeros l ≤ m → m ≤ k → reachLoop g (k + 1) rank l = refLoop g m (rank + 1) l := by
  intro m
  induction m with
  | zero =>
    intro k rank l hr hb hi hz hk
    have h2 : (reachR g rank l).2 = false := by
      cases h : (reachR g rank l).2 with
      | false => rfl
      | true => have := reachR_zeros hr hi h; omega
    have h3 : (reachR g rank l).1 = l := congrArg (·.1) (foldP_flag _ _ h2)
    rw [reachLoop, h2, if_neg (by simp), refLoop, h3]
  | succ m ih =>
    intro k rank l hr hb hi hz hk
    obtain ⟨k', rfl⟩ : ∃ k', k = k' + 1 := ⟨k - 1, by omega⟩
    have hn := reachR_next hr hi
    cases h : (reachR g rank l).2 with
    | false =>
      have h3 : (reachR g rank l).1 = l := congrArg (·.1) (foldP_flag _ _ h)
      rw [reachLoop, h, if_neg (by simp), refLoop, refR_next hr, ← hn, h3, refLoop_stay hb m (rank + 1) (by omega) (by omega)]
    | true =>
      have hz' := reachR_zeros hr hi h
      rw [reachLoop, h, if_pos rfl, refLoop, refR_next hr, hn]
      rw [hn] at hz'
      exact ih k' (rank + 1) _ (by omega) (Bd_nextRL hr hb) (hi.of nextRL_len) (by omega) (by omega)

theorem Bd_I {g : Gr} : Bd (reachI g) 1 := by
  intro n
  unfold reachI
  rw [rk_set]
  split
  · decide
  · have := Bd_zero (n := g.nons.toNat) n
    omega

theorem zeros_I {g : Gr} (h : right g = true) : zeros (reachI g) ≤ g.nons.toNat - 1 := by
  obtain ⟨⟨hn1, _⟩, _, ⟨hs1, hs2⟩, _⟩ := right_in h
  have h0 : rk (List.replicate g.nons.toNat ((0, 0) : Fc)) g.start = 0 := by
    have := Bd_zero (n := g.nons.toNat) g.start
    omega
  have := zeros_set (l := List.replicate g.nons.toNat ((0, 0) : Fc)) (n := g.start) (f := (1, 0)) hs1 (by simp; omega) h0 (by decide)
  have h2 : zeros (List.replicate g.nons.toNat ((0, 0) : Fc)) ≤ g.nons.toNat := by unfold zeros; exact Nat.le_trans List.countP_le_length (by simp)
  unfold reachI
  omega

theorem reach_same (g : Gr) : reachL g = reachRef g := by
  unfold reachL reachRef
  cases h : right g with
  | false => rfl
  | true =>
    obtain ⟨⟨hn1, _⟩, _⟩ := right_in h
    rw [if_pos rfl, if_pos rfl]
    exact reach_loop _ g.nons.toNat 1 _ (by omega) Bd_I (right_In h (by rw [reachI_len]; omega)) (zeros_I h) (by omega)

end Go.Av
