/-
  Layer 16, the plain law: the wild grammar. Conditions: none.
-/
import Derived.Test.YtiiogleijmcccaaXD
namespace Go.Av
open Go.Proofs
set_option maxRecDepth 100000
set_option linter.unusedSimpArgs false
set_option linter.unusedVariables false

def bump (m : Int) (s : Sy) : Sy := if s.non then ⟨true, s.n + m⟩ else s

def wildR (m : Int) (r : List Sy) (k : Nat) : List Sy := r.take k ++ match r[k]? with
  | some s => [bump m s]
  | none => []

def wildP (m : Int) (p : Pr) : List Pr := ⟨m + p.left, []⟩ :: (List.range p.right.length).map fun k => ⟨m + p.left, wildR m p.right k⟩

def wildG (g : Gr) : Gr := ⟨g.terms, 2 * g.nons, g.nons + g.start, g.prods ++ g.prods.flatMap (wildP g.nons)⟩

/-- Symbols of a grammar's own. -/
def OwnS (g : Gr) (l : List Sy) : Prop := ∀ s ∈ l, s.non = true → 0 ≤ s.n ∧ s.n < g.nons

theorem own_right {g : Gr} (hr : right g = true) {p : Pr} (hp : p ∈ g.prods) : OwnS g p.right := by
  obtain ⟨_, _, _, _, h5⟩ := right_in hr
  intro s hs hn
  have := (h5 p hp).2.2 s hs
  rw [if_pos hn] at this
  exact this

theorem wild_mem {g : Gr} {p : Pr} (h : p ∈ (wildG g).prods) : p ∈ g.prods ∨ ∃ q ∈ g.prods, p.left = g.nons + q.left ∧ (p.right = [] ∨ ∃ k s, q.right[k]? = some s ∧ p.right = q.right.take k ++ [bump g.nons s]) := by
  rcases List.mem_append.1 h with h | h
  · exact .inl h
  · obtain ⟨q, hq, h⟩ := List.mem_flatMap.1 h
    refine .inr ⟨q, hq, ?_⟩
    rcases List.mem_cons.1 h with rfl | h
    · exact ⟨rfl, .inl rfl⟩
    · obtain ⟨k, hk, rfl⟩ := List.mem_map.1 h
      obtain ⟨s, hs⟩ := get_some (List.mem_range.1 hk)
      refine ⟨rfl, .inr ⟨k, s, hs, ?_⟩⟩
      show wildR g.nons q.right k = _
      rw [wildR, hs]

theorem wild_own {g : Gr} {p : Pr} (h : p ∈ g.prods) : p ∈ (wildG g).prods := List.mem_append.2 (.inl h)

theorem wild_nil {g : Gr} {q : Pr} (h : q ∈ g.prods) : (⟨g.nons + q.left, []⟩ : Pr) ∈ (wildG g).prods := List.mem_append.2 (.inr (List.mem_flatMap.2 ⟨q, h, List.mem_cons_self ..⟩))

theorem wild_at {g : Gr} {q : Pr} (h : q ∈ g.prods) {l m : List Sy} {s : Sy} (he : q.right = l ++ s :: m) : (⟨g.nons + q.left, l ++ [bump g.nons s]⟩ : Pr) ∈ (wildG g).prods := by
  refine List.mem_append.2 (.inr (List.mem_flatMap.2 ⟨q, h, List.mem_cons_of_mem _ (List.mem_map.2 ⟨l.length, List.mem_range.2 (by rw [he]; simp), ?_⟩)⟩))
  rw [wildR, he]
  simp

theorem der_lift {g : Gr} {w : List Int} {l : List Sy} {a c : Nat} (h : Der g w l a c) : Der (wildG g) w l a c := by
  induction h with
  | nil h => exact .nil h
  | term h hl ih => exact .term h ih
  | non hp hr hl ih1 ih2 => exact .non (wild_own hp) ih1 ih2

theorem der_drop {g : Gr} (hr : right g = true) {w : List Int} {l : List Sy} {a c : Nat} (h : Der (wildG g) w l a c) : OwnS g l → Der g w l a c := by
  obtain ⟨_, _, _, _, h5⟩ := right_in hr
  induction h with
  | nil h => intro _; exact .nil h
  | term h hl ih => intro ho; exact .term h (ih fun s hs => ho s (by simp [hs]))
  | @non p l a b c hp hrr hl ih1 ih2 =>
    intro ho
    have h1 := ho ⟨true, p.left⟩ (by simp) rfl
    rcases wild_mem hp with hp | ⟨q, hq, e, _⟩
    · exact .non hp (ih1 (own_right hr hp)) (ih2 fun s hs => ho s (by simp [hs]))
    · have h2 := (h5 q hq).1
      simp only at h1
      omega

theorem wild_sound {g : Gr} (hr : right g = true) {w : List Int} {l : List Sy} {a c : Nat} (h : Der (wildG g) w l a c) : ∀ (l1 : List Sy) (n : Int), 0 ≤ n → l = l1 ++ [⟨true, g.nons + n⟩] → OwnS g l1 → c = w.length → ∃ b, Der g w l1 a b ∧ Ovr g w n b := by
  obtain ⟨_, _, _, _, h5⟩ := right_in hr
  induction h with
  | nil h => intro l1 n h0 e; simp at e
  | @term t l a c h hl ih =>
    intro l1 n h0 e ho hc
    cases l1 with
    | nil => simp at e
    | cons s l1 =>
      simp only [List.cons_append, List.cons.injEq] at e
      obtain ⟨rfl, e⟩ := e
      obtain ⟨b, h1, h2⟩ := ih l1 n h0 e (fun s hs => ho s (by simp [hs])) hc
      exact ⟨b, .term h h1, h2⟩
  | @non p l a b c hp hrr hl ih1 ih2 =>
    intro l1 n h0 e ho hc
    cases l1 with
    | nil =>
      simp only [List.nil_append, List.cons.injEq, Sy.mk.injEq, true_and] at e
      obtain ⟨e1, e2⟩ := e
      subst e2
      have hbc : b = c := by cases hl; rfl
      have hle := hrr.le
      refine ⟨a, .nil (by omega), ?_⟩
      rcases wild_mem hp with hp | ⟨q, hq, e3, e4⟩
      · have := (h5 p hp).1
        omega
      · have hqn : q.left = n := by omega
        rw [← hqn]
        rcases e4 with e4 | ⟨k, s, hs, e4⟩
        · rw [e4] at hrr
          have : a = b := by cases hrr; rfl
          exact .eps hq (by omega)
        · have hsp : q.right = q.right.take k ++ s :: q.right.drop (k + 1) := by
            have hk := (List.getElem?_eq_some_iff.1 hs).1
            have e : q.right.drop k = s :: q.right.drop (k + 1) := by
              rw [List.drop_eq_getElem_cons hk]
              congr 1
              exact (List.getElem_eq_iff hk).2 hs
            rw [← e, List.take_append_drop]
          have hown := own_right hr hq
          have hpre : OwnS g (q.right.take k) := fun x hx => hown x (List.take_subset k _ hx)
          cases hn : s.non
          · have hb : bump g.nons s = s := by rw [bump, hn]; rfl
            rw [hb] at e4
            rw [e4] at hrr
            have hd := der_drop hr hrr fun x hx => by
              rcases List.mem_append.1 hx with hx | hx
              · exact hpre x hx
              · rw [List.mem_singleton.1 hx]; exact hown s (List.mem_of_getElem? hs)
            rw [hbc, hc] at hd
            exact .all hq (l := q.right.take k ++ [s]) (m := q.right.drop (k + 1)) (by rw [List.append_assoc]; exact hsp) (by simp) hd
          · have hb : bump g.nons s = ⟨true, g.nons + s.n⟩ := by rw [bump, hn, if_pos rfl, Int.add_comm]
            have hs0 := (hown s (List.mem_of_getElem? hs) hn).1
            rw [hb] at e4
            obtain ⟨b', h1, h2⟩ := ih1 (q.right.take k) s.n hs0 e4 hpre (by omega)
            obtain ⟨sn, sm⟩ := s
            have hn : sn = true := hn
            subst hn
            exact .non hq hsp h1 h2
    | cons s l1 =>
      simp only [List.cons_append, List.cons.injEq] at e
      obtain ⟨rfl, e⟩ := e
      obtain ⟨b', h1, h2⟩ := ih2 l1 n h0 e (fun s hs => ho s (by simp [hs])) hc
      have h3 := ho ⟨true, p.left⟩ (by simp) rfl
      rcases wild_mem hp with hp | ⟨q, hq, e3, _⟩
      · exact ⟨b', .non hp (der_drop hr hrr (own_right hr hp)) h1, h2⟩
      · have := (h5 q hq).1
        simp only at h3
        omega

/-- What comes of symbols up to the end comes, too, if the last one goes on. -/
theorem wild_last {g : Gr} {w : List Int} {l : List Sy} {a c : Nat} (h : Der g w l a c) : c = w.length → ∀ (l0 : List Sy) (s : Sy), l = l0 ++ [s] → Der (wildG g) w (l0 ++ [bump g.nons s]) a c := by
  induction h with
  | nil h => intro _ l0 s e; simp at e
  | @term t l a c h hl ih =>
    intro hc l0 s e
    cases l0 with
    | nil =>
      simp only [List.nil_append, List.cons.injEq] at e
      obtain ⟨rfl, rfl⟩ := e
      exact .term h (der_lift hl)
    | cons x l0 =>
      simp only [List.cons_append, List.cons.injEq] at e
      obtain ⟨rfl, e⟩ := e
      exact .term h (ih hc l0 s e)
  | @non p l a b c hp hrr hl ih1 ih2 =>
    intro hc l0 s e
    cases l0 with
    | nil =>
      simp only [List.nil_append, List.cons.injEq] at e
      obtain ⟨rfl, rfl⟩ := e
      have hbc : b = c := by cases hl; rfl
      subst hbc
      show Der (wildG g) w [⟨true, p.left + g.nons⟩] a b
      rw [Int.add_comm]
      have hle := hrr.le
      rcases List.eq_nil_or_concat p.right with e | ⟨r, x, e⟩
      · rw [e] at hrr
        have hab : a = b := by cases hrr; rfl
        subst hab
        exact .non (p := ⟨g.nons + p.left, []⟩) (wild_nil hp) (.nil (by omega)) (.nil (by omega))
      · rw [List.concat_eq_append] at e
        exact .non (p := ⟨g.nons + p.left, r ++ [bump g.nons x]⟩) (wild_at hp (l := r) (m := []) (by rw [e])) (ih1 hc r x e) (.nil (by omega))
    | cons x l0 =>
      simp only [List.cons_append, List.cons.injEq] at e
      obtain ⟨rfl, e⟩ := e
      exact .non (wild_own hp) (der_lift hrr) (ih2 hc l0 s e)

theorem wild_comp {g : Gr} {w : List Int} {n : Int} {a : Nat} (h : Ovr g w n a) : Der (wildG g) w [⟨true, g.nons + n⟩] a w.length := by
  induction h with
  | @eps p a hp ha =>
    subst ha
    exact .non (p := ⟨g.nons + p.left, []⟩) (wild_nil hp) (.nil (Nat.le_refl _)) (.nil (Nat.le_refl _))
  | @all p l m a hp hrr hl hd =>
    rcases List.eq_nil_or_concat l with e | ⟨r, x, e⟩
    · exact absurd e hl
    · rw [List.concat_eq_append] at e
      exact .non (p := ⟨g.nons + p.left, r ++ [bump g.nons x]⟩) (wild_at hp (l := r) (m := m) (by rw [hrr, e]; simp)) (wild_last hd rfl r x e) (.nil (Nat.le_refl _))
  | @non p l m n a b hp hrr hd ho ih =>
    refine .non (p := ⟨g.nons + p.left, l ++ [bump g.nons ⟨true, n⟩]⟩) (wild_at hp hrr) ?_ (.nil (Nat.le_refl _))
    refine (der_lift hd).append ?_
    show Der (wildG g) w [⟨true, n + g.nons⟩] b w.length
    rw [Int.add_comm]
    exact ih

theorem wild_iff {g : Gr} (hr : right g = true) {w : List Int} {n : Int} (h0 : 0 ≤ n) {a : Nat} : Der (wildG g) w [⟨true, g.nons + n⟩] a w.length ↔ Ovr g w n a := by
  refine ⟨fun h => ?_, wild_comp⟩
  obtain ⟨b, h1, h2⟩ := wild_sound hr h [] n h0 rfl (fun s hs => by cases hs) rfl
  have : a = b := by cases h1; rfl
  rw [this]; exact h2

end Go.Av

