/-
  Layer 17, package lead: productions of a nonterminal; a list turned; a copy. Conditions: none.
-/
import Derived.Test.YtiiogleijmcccaaZ1
namespace Go.Av
open Go.Proofs
set_option maxRecDepth 100000
set_option linter.unusedSimpArgs false
set_option linter.unusedVariables false

/-- A nonterminal's productions, of the first j ones. -/
def prodsJ (g : Gr) (x : Int) : Nat → List Int
  | 0 => []
  | j + 1 => if g.prods[j]?.map (·.left) = some x then prodsJ g x j ++ [(j : Int)] else prodsJ g x j

def prodsL (g : Gr) (x : Int) : List Int := prodsJ g x g.prods.length

theorem prodsJ_mem {g : Gr} {x c : Int} : ∀ {j : Nat}, c ∈ prodsJ g x j ↔ ∃ i : Nat, i < j ∧ c = i ∧ ∃ p, g.prods[i]? = some p ∧ p.left = x
  | 0 => by simp [prodsJ]
  | j + 1 => by
    have ih := prodsJ_mem (g := g) (x := x) (c := c) (j := j)
    rw [prodsJ]
    by_cases h : g.prods[j]?.map (·.left) = some x
    · rw [if_pos h, List.mem_append, ih, List.mem_singleton]
      obtain ⟨p, h1, h2⟩ := Option.map_eq_some_iff.1 h
      constructor
      · rintro (⟨i, q1, q2, q3⟩ | rfl)
        · exact ⟨i, by omega, q2, q3⟩
        · exact ⟨j, by omega, rfl, p, h1, h2⟩
      · rintro ⟨i, q1, q2, q3⟩
        by_cases e : i = j
        · right; rw [q2, e]
        · exact .inl ⟨i, by omega, q2, q3⟩
    · rw [if_neg h, ih]
      constructor
      · rintro ⟨i, q1, q2, q3⟩
        exact ⟨i, by omega, q2, q3⟩
      · rintro ⟨i, q1, q2, p, q3, q4⟩
        have : i ≠ j := fun e => h (by rw [← e, q3, ← q4]; rfl)
        exact ⟨i, by omega, q2, p, q3, q4⟩

theorem prodsJ_len {g : Gr} {x : Int} : ∀ j, (prodsJ g x j).length ≤ j
  | 0 => by simp [prodsJ]
  | j + 1 => by
    have := prodsJ_len (g := g) (x := x) j
    rw [prodsJ]
    split
    · rw [List.length_append, List.length_singleton]; omega
    · omega

set_option maxHeartbeats 8000000 in
theorem f146 (g : Gr) (x : Int) (hp : g.prods.length < 2 ^ 40) : FH pg Tq 146 [.agg (eGr g), .int .i64 x] h0 0 fun r h n => SlL eIn 1 h 0 n r (prodsL g x) := by
  refine FH.of (N := 26) (rs := #[.tmp 4]) Try.func146 rfl rfl (of_decide_eq_true rfl) rfl (by decide) ?_
  refine W.rseq (k := 2) rfl fun K hK => ?_
  simp only [go_sem]
  refine hK _ _ _ ?_
  clear hK K
  refine W.rseq (k := 1) rfl fun K hK => ?_
  simp only [go_sem]
  refine hK _ _ _ ?_
  clear hK K
  refine W.seqk fun K hK => ?_
  refine W.rseq (k := 4) rfl fun K hK => ?_
  simp only [go_sem]
  refine hK _ _ _ ?_
  clear hK K
  have nx0 : ∀ (t' : Fr) (h' : Heap) (n' : Nat), SlL eIn 1 h' 1 n' (t' 5) (prodsL g x) → K t' h' n' := by
    intro t' h' n' e1
    refine hK _ _ _ ?_
    clear hK K
    refine W.rseq (k := 2) rfl fun K hK => ?_
    simp only [go_sem]
    refine hK _ _ _ ?_
    clear hK K
    refine W.ret ?_
    simp only [go_sem]
    exact e1.next rfl (fun x hx hx' => rfl) (by omega) (by omega)
  clear hK
  refine W.block (W.while (fun m t h n => ∃ j : Nat, m = g.prods.length - j ∧ j ≤ g.prods.length ∧ 0 < n ∧ h 0 = some (.cells [eGr g]) ∧ SlL eIn 1 h 1 n (t 5) (prodsJ g x j) ∧ (t 1 = .int .i64 x ∧ t 9 = .ro (g.prods.map ePr) ∧ t 10 = .int .i64 g.prods.length) ∧ t 11 = .int .i64 j) g.prods.length
    ⟨0, by simp, by omega, by omega, by simp only [go_sem], .inl ⟨rfl, rfl⟩, ⟨rfl, rfl, by simp only [go_sem]⟩, rfl⟩ fun m t h n ⟨j, i1, i2, i3, i4, i5, i6, i7⟩ => ?_)
  have i6' := i6
  obtain ⟨a1, a9, a10⟩ := i6'
  refine W.rseq (k := 1) rfl fun K hK => ?_
  simp only [go_sem, a10, i7]
  refine hK _ _ _ ?_
  clear hK K
  refine W.seq ?_
  refine W.cond rfl (fun hc => ?_) fun hc => ?_
  · refine W.skip ?_
    simp only [go_sem]
    have hj : j < g.prods.length := by simp at hc; omega
    obtain ⟨p, hpj⟩ := get_some hj
    have z0 : ∀ j, ¬ 0 = n + j := fun j => by omega
    refine W.seqk fun K hK => ?_
    have nx : ∀ (t' : Fr) (h' : Heap) (n' : Nat), 0 < n' → h' 0 = some (.cells [eGr g]) → SlL eIn 1 h' 1 n' (t' 5) (prodsJ g x (j + 1)) → (t' 1 = .int .i64 x ∧ t' 9 = .ro (g.prods.map ePr) ∧ t' 10 = .int .i64 g.prods.length) → t' 11 = .int .i64 j → K t' h' n' := by
      intro t' h' n' e1 e2 e3 e4 e5
      refine hK _ _ _ ?_
      clear hK K
      refine W.region (k := 2) rfl ?_
      simp only [go_sem, e5]
      refine ⟨g.prods.length - (j + 1), by omega, j + 1, rfl, by omega, by omega, e2, e3.next rfl (fun x _ _ => rfl) (by omega) (Nat.le_refl _), e4, ?_⟩
      rw [wrap64 (by omega) (by omega)]; rfl
    clear hK
    refine W.block ?_
    refine W.rseq (k := 6) rfl fun K hK => ?_
    simp only [go_sem, a9, i7, hpj]
    refine hK _ _ _ ?_
    clear hK K
    refine W.rseq (k := 4) rfl fun K hK => ?_
    simp only [go_sem, a1]
    refine hK _ _ _ ?_
    clear hK K
    by_cases hl : p.left = x
    · have hof : prodsJ g x (j + 1) = prodsJ g x j ++ [(j : Int)] := by rw [prodsJ, if_pos (by rw [hpj, ← hl]; rfl)]
      rw [hof] at nx
      refine W.condT (by simp only [go_sem, decide_eq_true hl]) ?_
      refine W.region (k := 5) rfl ?_
      have hlen := prodsJ_len (g := g) (x := x) j
      rcases i5 with ⟨w0, w5⟩ | ⟨b, w5, w1, w2, w3⟩
      · simp only [go_sem, w5, show (n ≤ n + 10) = True from eq_true (by omega), if_true, Nat.one_mul]
        refine nx _ _ _ (by omega) (by simp only [go_sem, z0, i4]) (.inr ⟨n + 14, by rw [w0]; rfl, by omega, by omega, by rw [w0]; simp only [go_sem]; rfl⟩) i6 i7
      · have zb : ∀ j, ¬ b = n + j := fun j => by omega
        have tkL : ((prodsJ g x j).map eIn).take (prodsJ g x j).length = (prodsJ g x j).map eIn := List.take_of_length_le (by simp)
        simp only [go_sem, w5, w3, zb, tkL, List.length_map, and_false, if_false, if_true, show ((prodsJ g x j).length + 1) * 8 ≤ 140737488355328 by omega, show (n + 11 ≤ b) = False from eq_false (by omega)]
        refine nx _ _ _ (by omega) (by simp only [go_sem, z0, i4, show ¬ 0 = b by omega]) (.inr ⟨n + 14, by rw [List.length_append]; rfl, by omega, by omega, by simp only [go_sem]; rw [List.map_append]; rfl⟩) i6 i7
    · have hof : prodsJ g x (j + 1) = prodsJ g x j := by rw [prodsJ, if_neg (by rw [hpj]; intro e; exact hl (by injection e))]
      rw [hof] at nx
      refine W.condF (by simp only [go_sem, decide_eq_false hl]) ?_
      refine W.skip ?_
      simp only [go_sem]
      exact nx _ _ _ (by omega) (by simp only [go_sem, z0, i4]) (i5.next rfl (fun x hx hx' => by simp only [go_sem, show ∀ j, ¬ x = n + j from fun j => by omega]) (by omega) (Nat.le_refl _)) i6 i7
  · refine W.exit ?_
    simp only [go_sem]
    have hj : j = g.prods.length := by simp at hc; omega
    rw [hj] at i5
    exact nx0 _ _ _ (i5.next rfl (fun x _ _ => rfl) (by omega) (Nat.le_refl _))

theorem f146' (g : Gr) (x : Int) (hp : g.prods.length < 2 ^ 40) (hne : prodsL g x ≠ []) : PT pg Tq 146 [.agg (eGr g), .int .i64 x] 1 ((prodsL g x).map eIn) := by
  obtain ⟨r, h', n', hb, ho⟩ := f146 g x hp
  rcases ho with ⟨e, _⟩ | ⟨b, rfl, h1, h2, h3⟩
  · exact absurd e hne
  · exact ⟨_, h', n', hb, b, by rw [List.length_map], _, h3, rfl, 5, fun fr => rfe_map fun x _ => by simp [rfs, rf, eIn]⟩

/-- A list that is being turned. -/
def Trn (l L : List Int) (i : Nat) : Prop := L.length = l.length ∧ ∀ x, x < l.length → L[x]? = if x < i ∨ l.length - 1 - i < x then l[l.length - 1 - x]? else l[x]?

theorem trn_end {l L : List Int} {i : Nat} (h : Trn l L i) (hi : l.length - 1 ≤ 2 * i) : L = l.reverse := by
  refine List.ext_getElem? fun x => ?_
  by_cases hx : x < l.length
  · rw [h.2 x hx, List.getElem?_reverse hx]
    split
    · rfl
    · rename_i hn
      congr 1
      omega
  · rw [List.getElem?_eq_none (by rw [h.1]; omega), List.getElem?_eq_none (by rw [List.length_reverse]; omega)]

theorem trn_step {l L : List Int} {i : Nat} (h : Trn l L i) (hi : 2 * i < l.length - 1) {a b : Int} (ha : L[i]? = some a) (hb : L[l.length - 1 - i]? = some b) : Trn l ((L.set i b).set (l.length - 1 - i) a) (i + 1) := by
  have h1 := h.2 i (by omega)
  rw [if_neg (by omega), ha] at h1
  have h2 := h.2 (l.length - 1 - i) (by omega)
  rw [if_neg (by omega), hb] at h2
  refine ⟨by simp [h.1], fun x hx => ?_⟩
  have h3 := h.2 x hx
  have hxl : x < L.length := by rw [h.1]; exact hx
  rw [List.getElem?_set, List.getElem?_set, List.length_set]
  by_cases e1 : l.length - 1 - i = x
  · rw [if_pos e1, if_pos (by omega), if_pos (by omega), h1]
    congr 1
    omega
  · rw [if_neg e1]
    by_cases e2 : i = x
    · rw [if_pos e2, if_pos (by omega), if_pos (by omega), h2]
      congr 1
      omega
    · rw [if_neg e2, h3]
      by_cases e3 : x < i ∨ l.length - 1 - i < x
      · rw [if_pos e3, if_pos (by omega)]
      · rw [if_neg e3, if_neg (by omega)]

set_option maxHeartbeats 8000000 in
theorem f147 (l : List Int) (b : Nat) (h : Heap) (n : Nat) (hb : b < n) (hh : h b = some (.cells (l.map eIn))) (hl : l.length < 2 ^ 40) : FH pg Tq 147 [.sl b 0 l.length 1] h n fun _ h' n' => n ≤ n' ∧ h' b = some (.cells (l.reverse.map eIn)) ∧ ∀ x, x < n → x ≠ b → h' x = h x := by
  refine FH.of (N := 28) (rs := #[]) Try.func147 rfl rfl (of_decide_eq_true rfl) rfl (by decide) ?_
  have hw0 : IntKind.wrap .i64 ((l.length : Int) - 1) = (l.length : Int) - 1 := wrap64 (by omega) (by omega)
  refine W.rseq (k := 5) rfl fun K hK => ?_
  simp only [go_sem, hw0]
  refine hK _ _ _ ?_
  clear hK K
  refine W.block (W.while (fun m t h1 n1 => ∃ (i : Nat) (L : List Int), m = l.length - i ∧ 2 * i ≤ l.length + 1 ∧ Trn l L i ∧ n ≤ n1 ∧ h1 b = some (.cells (L.map eIn)) ∧ (∀ x, x < n → x ≠ b → h1 x = h x) ∧ t 0 = .sl b 0 l.length 1 ∧ t 2 = .int .i64 i ∧ t 3 = .int .i64 ((l.length : Int) - 1 - i)) l.length
    ⟨0, l, by simp, by omega, ⟨rfl, fun x hx => by rw [if_neg (by omega)]⟩, by omega, hh, fun x _ _ => rfl, rfl, rfl, by simp only [go_sem]; congr 1; omega⟩ fun m t h1 n1 ⟨i, L, i1, i2, i3, i4, i5, i6, i7, i8, i9⟩ => ?_)
  refine W.seq ?_
  refine W.rseq (k := 3) rfl fun K hK => ?_
  simp only [go_sem, i8, i9]
  refine hK _ _ _ ?_
  clear hK K
  refine W.cond rfl (fun hc => ?_) fun hc => ?_
  · refine W.skip ?_
    simp only [go_sem]
    have hi : 2 * i < l.length - 1 := by simp at hc; omega
    obtain ⟨j, hj⟩ : ∃ j : Nat, j = l.length - 1 - i := ⟨_, rfl⟩
    have hji : (l.length : Int) - 1 - i = (j : Int) := by omega
    obtain ⟨x, hx⟩ := get_some (show i < L.length by rw [i3.1]; omega)
    obtain ⟨y, hy⟩ := get_some (show j < L.length by rw [i3.1]; omega)
    have hst := trn_step i3 hi hx (by rw [← hj]; exact hy)
    rw [← hj] at hst
    have hmx : (L.map eIn)[i]? = some (eIn x) := by rw [List.getElem?_map, hx]; rfl
    have hmy : (L.map eIn)[j]? = some (eIn y) := by rw [List.getElem?_map, hy]; rfl
    have hmy2 : ((L.map eIn).set i [AV.int .i64 y])[j]? = some [AV.int .i64 y] := by rw [List.getElem?_set, if_neg (by omega)]; exact hmy
    have zb : ∀ k, ¬ b = n1 + k := fun k => by omega
    have lb : ∀ k, (b < n1 + k) = True := fun k => eq_true (by omega)
    rw [hji] at i9
    refine W.seqk fun K hK => ?_
    have nx : ∀ (t' : Fr) (h' : Heap) (n' : Nat), n ≤ n' → h' b = some (.cells (((L.set i y).set j x).map eIn)) → (∀ x, x < n → x ≠ b → h' x = h x) → t' 0 = .sl b 0 l.length 1 → t' 2 = .int .i64 i → t' 3 = .int .i64 j → K t' h' n' := by
      intro t' h' n' e1 e2 e3 e4 e5 e6
      refine hK _ _ _ ?_
      clear hK K
      refine W.region (k := 6) rfl ?_
      simp only [go_sem, e5, e6]
      refine ⟨l.length - (i + 1), by omega, i + 1, (L.set i y).set j x, rfl, by omega, hst, by omega, e2, e3, e4, ?_, ?_⟩
      · rw [wrap64 (by omega) (by omega)]; rfl
      · rw [wrap64 (by omega) (by omega)]; congr 1; omega
    clear hK
    refine W.block ?_
    refine W.draw (k := 16) rfl ?_
    simp only [go_sem, i7, i8, i9, i5, hmx, hmy, hmy2, zb, lb, eIn, show (i : Int) < (l.length : Int) by omega, show (j : Int) < (l.length : Int) by omega]
    refine ⟨by kernel_rfl, ?_⟩
    refine nx _ _ _ (by omega) ?_ (fun x q1 q2 => by simp only [go_sem, q2]; exact i6 x q1 q2) i7 i8 i9
    simp only [go_sem, List.map_set, eIn]
  · refine W.exit ?_
    simp only [go_sem]
    have hi : l.length - 1 ≤ 2 * i := by simp at hc; omega
    rw [trn_end i3 hi] at i5
    exact ⟨by omega, i5, i6⟩

set_option maxHeartbeats 8000000 in
theorem f149 (l : List Lt) (b : Nat) (es : List (List AV)) (h : Heap) (n : Nat) (hb : b < n) (hh : h b = some (.cells es)) (hle : l.length ≤ es.length) (htk : es.take l.length = l.map eTd) (hl : l.length < 2 ^ 40) : FH pg Tq 149 [.sl b 0 l.length 3] h n fun r h' n' => n ≤ n' ∧ (∀ x, x < n → h' x = h x) ∧ SlL eTd 3 h' n n' r l := by
  refine FH.of (N := 8) (rs := #[.tmp 2]) Try.func149 rfl rfl (of_decide_eq_true rfl) rfl (by decide) ?_
  refine W.rseq (k := 1) rfl fun K hK => ?_
  simp only [go_sem]
  refine hK _ _ _ ?_
  clear hK K
  refine W.seq ?_
  refine W.rseq (k := 2) rfl fun K hK => ?_
  simp only [go_sem]
  refine hK _ _ _ ?_
  clear hK K
  refine W.condF (by simp only [go_sem]) ?_
  refine W.skip ?_
  simp only [go_sem]
  have hlt : (b < n + 3) = True := eq_true (by omega)
  refine W.rseq (k := 4) rfl fun K hK => ?_
  cases l with
  | nil =>
    simp only [go_sem, hh, hle, htk, hlt, Nat.zero_le, if_true, List.isEmpty_nil, List.length_nil, List.take_zero]
    refine hK _ _ _ ?_
    first | clear hK K | clear hK | skip
    refine W.ret ?_
    simp only [go_sem]
    exact ⟨by omega, fun _ _ => trivial, .inl ⟨rfl, rfl⟩⟩
  | cons x l =>
    rw [List.length_cons] at hle hl htk
    have hie : ((x :: l).map eTd).isEmpty = false := rfl
    simp only [go_sem, hh, hle, htk, hlt, if_true, hie, Bool.false_eq_true, if_false, List.length_map, List.length_cons, show (l.length + 1) * 24 ≤ 140737488355328 by omega]
    refine hK _ _ _ ?_
    first | clear hK K | clear hK | skip
    refine W.ret ?_
    simp only [go_sem]
    exact ⟨by omega, fun y hy => by simp only [go_sem, show ∀ j, ¬ y = n + j from fun j => by omega], .inr ⟨n + 5, rfl, by omega, by omega, by simp only [go_sem]⟩⟩

end Go.Av

