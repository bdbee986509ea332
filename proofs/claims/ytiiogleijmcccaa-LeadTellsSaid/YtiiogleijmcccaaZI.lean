/-
  Layer 17, the plain law: which production the document's answer takes. Conditions: none.
-/
import Derived.Test.YtiiogleijmcccaaZG
import Derived.Test.YtiiogleijmcccaaZH
namespace Go.Av
open Go.Proofs
set_option maxRecDepth 100000
set_option linter.unusedSimpArgs false
set_option linter.unusedVariables false

section
variable {g : Gr} {w : List Int} {rows : List (Nat → Nat)} {kind : Int}

def fitP (g : Gr) (w : List Int) (rows : List (Nat → Nat)) (kind : Int) (T : List Lt) (a : Nat) (c : Int) : Bool := (lastG w (layL w rows kind T (rightOf g c))).testBit a

theorem try_find {T : List Lt} {a : Nat} : ∀ cs : List Int, tryL g w rows kind T a cs = (cs.find? (fitP g w rows kind T a)).map fun c => (c, layL w rows kind T (rightOf g c))
  | [] => rfl
  | c :: cs => by
    rw [try_cons, List.find?_cons]
    show (if fitP g w rows kind T a c = true then _ else _) = _
    cases h : fitP g w rows kind T a c
    · rw [if_neg (by decide)]; exact try_find cs
    · rw [if_pos rfl]; rfl

/-- The best one so far. -/
def bstF (k1 : Bool) (P : Int → Bool) : Int → List Int → Int
  | b, [] => b
  | b, c :: cs => bstF k1 P (if (P c && (decide (b < 0) || k1)) = true then c else b) cs

theorem bst_app {k1 : Bool} {P : Int → Bool} : ∀ (cs : List Int) (b c : Int), bstF k1 P b (cs ++ [c]) = if (P c && (decide (bstF k1 P b cs < 0) || k1)) = true then c else bstF k1 P b cs
  | [], b, c => rfl
  | d :: cs, b, c => by
    rw [List.cons_append, bstF, bstF, bst_app cs]

theorem bst_first {P : Int → Bool} : ∀ (cs : List Int) (b : Int), (∀ c ∈ cs, 0 ≤ c) → bstF false P b cs = if b < 0 then (cs.find? P).getD b else b
  | [], b, _ => by rw [bstF]; simp
  | c :: cs, b, h => by
    have hc := h c (by simp)
    rw [bstF, bst_first cs _ fun d hd => h d (by simp [hd]), List.find?_cons]
    cases hp : P c
    · simp
    · by_cases hb : b < 0
      · simp [hb, show ¬ c < 0 by omega]
      · simp [hb]

theorem bst_last {P : Int → Bool} : ∀ (cs : List Int) (b : Int), bstF true P b cs = (cs.reverse.find? P).getD b
  | [], b => rfl
  | c :: cs, b => by
    rw [bstF, bst_last cs, List.reverse_cons, List.find?_append]
    cases hp : P c
    · cases hf : cs.reverse.find? P <;> simp [hp]
    · cases hf : cs.reverse.find? P <;> simp [hp]

/-- Productions that the document's answer looks at. -/
def canR (g : Gr) (w : List Int) (kind : Int) (a : Nat) (x : Int) : List Int := if kind = 2 ∧ a = w.length then [((ranksL g true).getD x.toNat (0, 0)).2] else prodsL g x

theorem canR_mem {a : Nat} {x c : Int} : c ∈ canR g w kind a x ↔ c ∈ candL g w kind a x := by
  rw [canR, candL]
  split
  · exact Iff.rfl
  · split
    · rw [List.mem_reverse]
    · exact Iff.rfl

theorem bst_try (hG : GoodG g) {T : List Lt} {a : Nat} {x : Int} (h0 : 0 ≤ x) (hx : x < g.nons) {c : Int} {L : List Lt} (h : tryL g w rows kind T a (candL g w kind a x) = some (c, L)) : bstF (decide (kind = 1)) (fitP g w rows kind T a) (-1) (canR g w kind a x) = c := by
  have hpos : ∀ c ∈ canR g w kind a x, 0 ≤ c := fun c hc => by
    obtain ⟨i, rfl, _⟩ := hG.cand h0 hx (canR_mem.1 hc)
    omega
  rw [try_find] at h
  have hf : (candL g w kind a x).find? (fitP g w rows kind T a) = some c := by
    cases hq : (candL g w kind a x).find? (fitP g w rows kind T a) with
    | none => rw [hq] at h; cases h
    | some d =>
      rw [hq] at h
      injection h with h
      injection h with h1 h2
      rw [h1]
  by_cases hk : kind = 1
  · rw [decide_eq_true hk, bst_last]
    have e : (canR g w kind a x).reverse = candL g w kind a x := by
      rw [canR, candL, if_neg (by omega), if_neg (by omega), if_pos hk]
    rw [e, hf]; rfl
  · rw [decide_eq_false hk, bst_first _ _ hpos, if_pos (by decide)]
    have e : canR g w kind a x = candL g w kind a x := by
      rw [canR, candL]
      split
      · rfl
      · first | rfl | rw [if_neg hk]
    rw [e, hf]; rfl

/-- What the reference looks at is what fits. -/
theorem fit_iff (hG : GoodG g) (hrc : RowsC g w rows) (hw : w.length ≤ 24) {T : List Lt} {a : Nat} (hc : ConsT w rows kind T) (hn : NtT g T) (ha : a ≤ w.length) {i : Nat} {p : Pr} (hp : g.prods[i]? = some p) :
    fitP g w rows kind T a i = true ↔ Ok g w (kind = 2) (p.right ++ T.map (·.1)) a := by
  have hro : rightOf g (i : Int) = p.right := by rw [rightOf, Int.toNat_natCast, hp]; rfl
  rw [fitP, hro, good_ok hrc hw (hc.lay _) (nt24 hG.right (hn.prod hG.right (List.mem_of_getElem? hp))) ha, lay_map]

end

/-- A slice of symbols, maybe the end of one; or none. -/
def SlO (h : Heap) (n : Nat) (v : AV) (l : List Sy) : Prop := (l = [] ∧ (v = .nils ∨ v = .ro [])) ∨ (l ≠ [] ∧ ∃ b off es, v = .sl b off l.length 2 ∧ 0 < b ∧ b < n ∧ h b = some (.cells es) ∧ off + l.length ≤ es.length ∧ (es.drop off).take l.length = l.map eSy)

theorem SlO.next {h h' : Heap} {n n' : Nat} {v v' : AV} {l : List Sy} (s : SlO h n v l) (hv : v' = v) (hh : ∀ x, 0 < x → x < n → h' x = h x) (hn : n ≤ n') : SlO h' n' v' l := by
  subst hv
  rcases s with s | ⟨s0, b, off, es, s1, s2, s3, s4, s5, s6⟩
  · exact .inl s
  · exact .inr ⟨s0, b, off, es, s1, s2, by omega, (hh b s2 s3).trans s4, s5, s6⟩

/-- What is behind the first one. -/
theorem cut_one {es : List (List AV)} {off : Nat} {s : Sy} {l : List Sy} (h : (es.drop off).take (l.length + 1) = (s :: l).map eSy) (hl : off + (l.length + 1) ≤ es.length) : es[off]? = some (eSy s) ∧ (es.drop (off + 1)).take l.length = l.map eSy := by
  have ho : off < es.length := by omega
  have hd : es.drop off = es[off] :: es.drop (off + 1) := List.drop_eq_getElem_cons ho
  rw [hd, List.take_succ_cons, List.map_cons] at h
  injection h with h1 h2
  exact ⟨by rw [List.getElem?_eq_getElem ho, h1], h2⟩

end Go.Av

