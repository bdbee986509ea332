/-
  Layer 15, the plain law: derivations. Conditions: none.
-/
import Derived.Test.YtiiogleijmcccaaSS
namespace Go.Av
open Go.Proofs
set_option linter.unusedSimpArgs false
set_option linter.unusedVariables false

/-- A symbol that is to be derived, or the end of one that was. -/
structure Pt where
  s : Sy
  node : Int
  fin : Bool

def ePt (p : Pt) : List AV := [.bool p.s.non, .int .i64 p.s.n, .int .i64 p.node, .bool p.fin]
attribute [go_sem] ePt

/-- A production, and places. -/
abbrev Nd := Int × List Int

/-- Where a replay stands. -/
structure Rs where
  todo : List Pt
  word : List Int
  nodes : List Nd

def extN (nd : Int) (ns : List Nd) (pl : List Int) : List Nd := if 0 ≤ nd then ns.modify nd.toNat (fun x => (x.1, x.2 ++ pl)) else ns

def hereF (w : List Int) (ns : List Nd) (p : Pt) : List Nd := extN p.node ns [(w.length : Int)]

def runF : List Pt → List Int → List Nd → Option Int × Rs
  | [], w, ns => (none, ⟨[], w, ns⟩)
  | p :: t, w, ns => if p.fin then runF t w (hereF w ns p) else if p.s.non then (some p.s.n, ⟨t, w, hereF w ns p⟩) else runF t (w ++ [p.s.n]) (hereF w ns p)

def mkP (nd : Int) (s : Sy) : Pt := ⟨s, nd, false⟩
def finP (nd : Int) : Pt := ⟨⟨false, 0⟩, nd, true⟩

def openF (x : Int) (right : List Sy) (r : Rs) : Rs := ⟨right.map (mkP r.nodes.length) ++ finP r.nodes.length :: r.todo, r.word, r.nodes ++ [(x, [])]⟩

/-- The production that takes a nonterminal's place. -/
def okP (g : Gr) (x n : Int) : Option Pr := if 0 ≤ x then (g.prods[x.toNat]?).bind fun p => if p.left = n then some p else none else none

def repM (g : Gr) : List Int → Rs → Int × Rs
  | [], r => match runF r.todo r.word r.nodes with
    | (none, r') => (0, r')
    | (some _, r') => (3, r')
  | x :: l, r => match runF r.todo r.word r.nodes with
    | (none, r') => (2, r')
    | (some n, r') => match okP g x n with
      | some p => repM g l (openF x p.right r')
      | none => (2, r')

def strip : List Sy → List Int → List Sy × List Int
  | [], w => ([], w)
  | s :: r, w => if s.non then (s :: r, w) else strip r (w ++ [s.n])

def repF (g : Gr) : List Int → List Sy → List Int → Int × List Int
  | [], r, w => match strip r w with
    | ([], w') => (0, w')
    | (_ :: _, _) => (3, [])
  | x :: l, r, w => match strip r w with
    | ([], _) => (2, [])
    | (s :: r', w') => match okP g x s.n with
      | some p => repF g l (p.right ++ r') w'
      | none => (2, [])

def rowOf : List Pt → List Sy
  | [] => []
  | p :: t => if p.fin then rowOf t else p.s :: rowOf t

theorem rowOf_app : ∀ (a b : List Pt), rowOf (a ++ b) = rowOf a ++ rowOf b
  | [], b => rfl
  | p :: a, b => by
    rw [List.cons_append, rowOf, rowOf, rowOf_app a b]
    split <;> rfl

theorem rowOf_mk (nd : Int) : ∀ l : List Sy, rowOf (l.map (mkP nd)) = l
  | [] => rfl
  | s :: l => by
    rw [List.map_cons, rowOf, rowOf_mk nd l]; rfl

theorem run_strip : ∀ (t : List Pt) (w : List Int) (ns : List Nd),
    strip (rowOf t) w = (match (runF t w ns).1 with | none => [] | some n => ⟨true, n⟩ :: rowOf (runF t w ns).2.todo, (runF t w ns).2.word) ∧ ((runF t w ns).1 = none → (runF t w ns).2.todo = [])
  | [], w, ns => by simp [rowOf, strip, runF]
  | ⟨⟨sn, n⟩, nd, fin⟩ :: t, w, ns => by
    rw [rowOf, runF]
    cases fin with
    | true => simp only [if_true]; exact run_strip t w _
    | false =>
      simp only [Bool.false_eq_true, if_false]
      rw [strip]
      cases sn with
      | true => simp
      | false => simp only [Bool.false_eq_true, if_false]; exact run_strip t _ _

/-- Both tell the same. -/
theorem rep_same {g : Gr} : ∀ (l : List Int) (r : Rs), (repM g l r).1 = (repF g l (rowOf r.todo) r.word).1 ∧ (repF g l (rowOf r.todo) r.word).2 = if (repM g l r).1 = 0 then (repM g l r).2.word else []
  | [], r => by
    obtain ⟨h, _⟩ := run_strip r.todo r.word r.nodes
    rw [repM, repF, h]
    rcases hr : runF r.todo r.word r.nodes with ⟨o, r'⟩
    cases o <;> simp
  | x :: l, r => by
    obtain ⟨h, _⟩ := run_strip r.todo r.word r.nodes
    rw [repM, repF, h]
    rcases hr : runF r.todo r.word r.nodes with ⟨o, r'⟩
    cases o with
    | none => simp
    | some n =>
      simp only
      cases hp : okP g x n with
      | none => simp
      | some p =>
        simp only
        have := rep_same (g := g) l (openF x p.right r')
        have e : rowOf (openF x p.right r').todo = p.right ++ rowOf r'.todo := by
          rw [openF, rowOf_app, rowOf_mk]; rfl
        rw [e] at this
        exact this

/-- What nodes come of symbols, from a place in the list and in the word on. -/
inductive Bld (g : Gr) (l : List Int) : List Sy → Nat → Nat → List Int → List Nd → Nat → Nat → Prop
  | nil {i at'} : Bld g l [] i at' [] [] i at'
  | term {n r i at' pl ns i' at2} (h : Bld g l r i (at' + 1) pl ns i' at2) : Bld g l (⟨false, n⟩ :: r) i at' ((at' : Int) :: pl) ns i' at2
  | non {n r i at' j p pl1 ns1 i1 at1 pl ns i' at2} (hj : l[i]? = some j) (hp : okP g j n = some p) (h1 : Bld g l p.right (i + 1) at' pl1 ns1 i1 at1) (h2 : Bld g l r i1 at1 pl ns i' at2) :
      Bld g l (⟨true, n⟩ :: r) i at' ((at' : Int) :: pl) ((j, pl1 ++ [(at1 : Int)]) :: ns1 ++ ns) i' at2

theorem Bld.split {g : Gr} {l : List Int} : ∀ (a : List Sy) {b : List Sy} {i at' : Nat} {pl : List Int} {ns : List Nd} {i' at2 : Nat}, Bld g l (a ++ b) i at' pl ns i' at2 →
    ∃ pl1 ns1 i1 at1 pl2 ns2, Bld g l a i at' pl1 ns1 i1 at1 ∧ Bld g l b i1 at1 pl2 ns2 i' at2 ∧ pl = pl1 ++ pl2 ∧ ns = ns1 ++ ns2
  | [], b, i, at', pl, ns, i', at2, h => ⟨[], [], i, at', pl, ns, .nil, h, rfl, rfl⟩
  | ⟨sn, n⟩ :: a, b, i, at', pl, ns, i', at2, h => by
    rw [List.cons_append] at h
    cases h with
    | term h =>
      obtain ⟨pl1, ns1, i1, at1, pl2, ns2, h1, h2, rfl, rfl⟩ := Bld.split a h
      exact ⟨_, _, _, _, _, _, .term h1, h2, rfl, rfl⟩
    | non hj hp h h' =>
      obtain ⟨pl1, ns1, i1, at1, pl2, ns2, h1, h2, rfl, rfl⟩ := Bld.split a h'
      exact ⟨_, _, _, _, _, _, .non hj hp h h1, h2, rfl, by simp⟩

theorem extN_len {nd : Int} {ns : List Nd} {pl : List Int} : (extN nd ns pl).length = ns.length := by
  unfold extN; split <;> simp

theorem extN_ext {nd : Int} {ns : List Nd} {a b : List Int} : extN nd (extN nd ns a) b = extN nd ns (a ++ b) := by
  unfold extN
  split
  · rw [List.modify_modify_eq]
    congr 1
    funext x
    simp
  · rfl

theorem extN_nil {nd : Int} {ns : List Nd} : extN nd ns [] = ns := by
  unfold extN
  split
  · have : (fun x : Nd => (x.1, x.2 ++ [])) = id := by funext x; simp
    rw [this, List.modify_id]
  · rfl

theorem extN_app {nd : Int} {ns ms : List Nd} {a : List Int} (h : nd < ns.length) : extN nd (ns ++ ms) a = extN nd ns a ++ ms := by
  unfold extN
  split
  · refine List.ext_getElem? fun i => ?_
    rw [List.getElem?_modify, List.getElem?_append, List.getElem?_append, List.length_modify, List.getElem?_modify]
    by_cases hi : i < ns.length
    · simp [hi]
    · have hne : ¬ nd.toNat = i := by omega
      simp [hi, hne]
  · rfl

theorem extN_new {ns : List Nd} {x : Int} {a b : List Int} : extN (ns.length : Int) (ns ++ [(x, a)]) b = ns ++ [(x, a ++ b)] := by
  unfold extN
  rw [if_pos (by omega), Int.toNat_natCast]
  refine List.ext_getElem? fun i => ?_
  rw [List.getElem?_modify, List.getElem?_append, List.getElem?_append]
  by_cases hi : i < ns.length
  · have hne : ¬ ns.length = i := by omega
    simp [hi, hne]
  · simp only [hi, if_false]
    by_cases he : ns.length = i
    · subst he; simp
    · have : ∀ y : Nd, [y][i - ns.length]? = none := fun y => by rw [List.getElem?_eq_none]; simp; omega
      simp [this, he]

theorem rep_term {g : Gr} {l : List Int} {n nd : Int} {T : List Pt} {w : List Int} {ns : List Nd} : repM g l ⟨mkP nd ⟨false, n⟩ :: T, w, ns⟩ = repM g l ⟨T, w ++ [n], extN nd ns [(w.length : Int)]⟩ := by
  cases l <;> simp [repM, runF, mkP, hereF]

theorem rep_fin {g : Gr} {l : List Int} {nd : Int} {T : List Pt} {w : List Int} {ns : List Nd} : repM g l ⟨finP nd :: T, w, ns⟩ = repM g l ⟨T, w, extN nd ns [(w.length : Int)]⟩ := by
  cases l <;> simp [repM, runF, finP, hereF]

theorem rep_non {g : Gr} {l : List Int} {x n nd : Int} {p : Pr} {T : List Pt} {w : List Int} {ns : List Nd} (hp : okP g x n = some p) :
    repM g (x :: l) ⟨mkP nd ⟨true, n⟩ :: T, w, ns⟩ = repM g l (openF x p.right ⟨T, w, extN nd ns [(w.length : Int)]⟩) := by
  simp [repM, runF, mkP, hereF, hp]

/-- The machine lays just those nodes. -/
theorem bld_run {g : Gr} {l : List Int} {syms : List Sy} {i at' : Nat} {pl : List Int} {ns : List Nd} {i' at2 : Nat} (h : Bld g l syms i at' pl ns i' at2) :
    ∀ (nd : Int) (T : List Pt) (w : List Int) (N : List Nd), w.length = at' → nd < N.length →
      ∃ w', w'.length = at2 ∧ repM g (l.drop i) ⟨syms.map (mkP nd) ++ T, w, N⟩ = repM g (l.drop i') ⟨T, w', extN nd N pl ++ ns⟩ := by
  induction h with
  | nil =>
    intro nd T w N hw hn
    exact ⟨w, hw, by rw [extN_nil]; simp⟩
  | @term n r i at' pl ns i' at2 h ih =>
    intro nd T w N hw hn
    obtain ⟨w', h1, h2⟩ := ih nd T (w ++ [n]) (extN nd N [(w.length : Int)]) (by simp [hw]) (by rw [extN_len]; exact hn)
    refine ⟨w', h1, ?_⟩
    rw [List.map_cons, List.cons_append, rep_term, h2, extN_ext, hw]
    rfl
  | @non n r i at' j p pl1 ns1 i1 at1 pl ns i' at2 hj hp h1 h2 ih1 ih2 =>
    intro nd T w N hw hn
    obtain ⟨hi, hje⟩ := List.getElem?_eq_some_iff.1 hj
    have hd : l.drop i = j :: l.drop (i + 1) := by rw [List.drop_eq_getElem_cons hi, hje]
    have hln : (extN nd N [(w.length : Int)]).length = N.length := extN_len
    obtain ⟨w1, k1, k2⟩ := ih1 ((extN nd N [(w.length : Int)]).length : Int) (finP (extN nd N [(w.length : Int)]).length :: (r.map (mkP nd) ++ T)) w (extN nd N [(w.length : Int)] ++ [(j, [])]) hw (by simp; omega)
    obtain ⟨w2, k3, k4⟩ := ih2 nd T w1 (extN nd N [(w.length : Int)] ++ (j, pl1 ++ [(at1 : Int)]) :: ns1) k1 (by simp; omega)
    refine ⟨w2, k3, ?_⟩
    rw [hd, List.map_cons, List.cons_append, rep_non hp]
    show repM g (l.drop (i + 1)) ⟨p.right.map (mkP _) ++ finP _ :: (r.map (mkP nd) ++ T), w, _⟩ = _
    rw [k2, rep_fin, extN_new, List.nil_append, extN_app (by simp; omega), extN_new, k1]
    rw [List.append_assoc, List.singleton_append] at *
    rw [k4, extN_app (by omega), extN_ext, hw]
    simp

theorem strip_non : ∀ {r : List Sy} {w : List Int} {s : Sy} {r' : List Sy} {w' : List Int}, strip r w = (s :: r', w') → s.non = true
  | [], w, s, r', w', h => by cases h
  | x :: r, w, s, r', w', h => by
    rw [strip] at h
    split at h
    · rename_i hx; cases h; exact hx
    · exact strip_non h

theorem bld_strip {g : Gr} {l : List Int} {i i' at2 : Nat} {ns : List Nd} : ∀ {r : List Sy} {w : List Int} {r' : List Sy} {w' : List Int} {pl : List Int}, strip r w = (r', w') → Bld g l r' i w'.length pl ns i' at2 → ∃ pl', Bld g l r i w.length pl' ns i' at2
  | [], w, r', w', pl, h, hb => by cases h; exact ⟨_, hb⟩
  | ⟨sn, n⟩ :: r, w, r', w', pl, h, hb => by
    rw [strip] at h
    cases sn with
    | true =>
      simp only [if_true] at h
      cases h; exact ⟨_, hb⟩
    | false =>
      simp only [Bool.false_eq_true, if_false] at h
      obtain ⟨pl', h'⟩ := bld_strip h hb
      rw [List.length_append] at h'
      exact ⟨_, .term h'⟩

theorem drop_cons {α : Type} {L l : List α} {x : α} {i : Nat} (h : L.drop i = x :: l) : L[i]? = some x ∧ L.drop (i + 1) = l ∧ i < L.length := by
  have hi : i < L.length := by
    refine Classical.byContradiction fun hc => ?_
    rw [List.drop_eq_nil_of_le (by omega)] at h
    cases h
  rw [List.drop_eq_getElem_cons hi] at h
  simp only [List.cons.injEq] at h
  exact ⟨by rw [List.getElem?_eq_getElem hi, h.1], h.2, hi⟩

theorem bld_of {g : Gr} {L : List Int} : ∀ (l : List Int) (r : List Sy) (w v : List Int) (i : Nat), i ≤ L.length → L.drop i = l → repF g l r w = (0, v) → ∃ pl ns at2, Bld g L r i w.length pl ns L.length at2
  | [], r, w, v, i, hi, hl, h => by
    rw [repF] at h
    rcases hs : strip r w with ⟨r', w'⟩
    rw [hs] at h
    cases r' with
    | cons s r' => simp at h
    | nil =>
      have : i = L.length := by have := congrArg List.length hl; simp at this; omega
      obtain ⟨pl', h'⟩ := bld_strip (g := g) (l := L) hs (Bld.nil (i := i) (at' := w'.length))
      rw [← this]
      exact ⟨_, _, _, h'⟩
  | x :: l, r, w, v, i, hi, hl, h => by
    obtain ⟨h1, h2, h3⟩ := drop_cons hl
    rw [repF] at h
    rcases hs : strip r w with ⟨r', w'⟩
    rw [hs] at h
    cases r' with
    | nil => simp at h
    | cons s r' =>
      obtain ⟨sn, n⟩ := s
      have hsn : sn = true := strip_non hs
      subst hsn
      simp only at h
      cases hp : okP g x n with
      | none => rw [hp] at h; simp at h
      | some p =>
        rw [hp] at h
        simp only at h
        obtain ⟨pl, ns, at2, hb⟩ := bld_of l (p.right ++ r') w' v (i + 1) h3 h2 h
        obtain ⟨pl1, ns1, i1, at1, pl2, ns2, b1, b2, _, _⟩ := hb.split
        obtain ⟨pl', h'⟩ := bld_strip hs (.non h1 hp b1 b2)
        exact ⟨_, _, _, h'⟩

theorem okP_some {g : Gr} {x n : Int} {p : Pr} (h : okP g x n = some p) : 0 ≤ x ∧ g.prods[x.toNat]? = some p ∧ p.left = n := by
  unfold okP at h
  split at h
  · rename_i hx
    cases hq : g.prods[x.toNat]? with
    | none => rw [hq] at h; cases h
    | some q =>
      rw [hq] at h
      simp only [Option.bind_some] at h
      split at h
      · rename_i e; cases h; exact ⟨hx, rfl, e⟩
      · cases h
  · cases h

/-- What comes of it is a word of the row. -/
theorem strip_der {g : Gr} {W : List Int} : ∀ {r : List Sy} {w : List Int} {r' : List Sy} {w' : List Int}, strip r w = (r', w') → (∃ u, W = w' ++ u) → Der g W r' w'.length W.length → (∃ u, W = w ++ u) ∧ Der g W r w.length W.length
  | [], w, r', w', h, hu, hd => by cases h; exact ⟨hu, hd⟩
  | ⟨sn, n⟩ :: r, w, r', w', h, hu, hd => by
    rw [strip] at h
    cases sn with
    | true =>
      simp only [if_true] at h
      cases h; exact ⟨hu, hd⟩
    | false =>
      simp only [Bool.false_eq_true, if_false] at h
      obtain ⟨⟨u, e⟩, h'⟩ := strip_der h hu hd
      refine ⟨⟨n :: u, by rw [e]; simp⟩, ?_⟩
      rw [List.length_append] at h'
      exact .term (by rw [e]; simp) h'

theorem rep_der {g : Gr} : ∀ (l : List Int) (r : List Sy) (w W : List Int), repF g l r w = (0, W) → (∃ u, W = w ++ u) ∧ Der g W r w.length W.length
  | [], r, w, W, h => by
    rw [repF] at h
    rcases hs : strip r w with ⟨r', w'⟩
    rw [hs] at h
    cases r' with
    | cons s r' => simp at h
    | nil =>
      simp only [Prod.mk.injEq, true_and] at h
      subst h
      exact strip_der hs ⟨[], by simp⟩ (.nil (Nat.le_refl _))
  | x :: l, r, w, W, h => by
    rw [repF] at h
    rcases hs : strip r w with ⟨r', w'⟩
    rw [hs] at h
    cases r' with
    | nil => simp at h
    | cons s r' =>
      obtain ⟨sn, n⟩ := s
      have hsn : sn = true := strip_non hs
      subst hsn
      simp only at h
      cases hp : okP g x n with
      | none => rw [hp] at h; simp at h
      | some p =>
        rw [hp] at h
        simp only at h
        obtain ⟨hu, hd⟩ := rep_der l _ w' W h
        obtain ⟨b, d1, d2⟩ := hd.split p.right rfl
        obtain ⟨_, hm, rfl⟩ := okP_some hp
        exact strip_der hs hu (.non (List.mem_of_getElem? hm) d1 d2)

/-- No derivation is the beginning of another one. -/
theorem rep_prefix {g : Gr} : ∀ (l : List Int) (r : List Sy) (w W : List Int) (x : Int) (m : List Int), repF g l r w = (0, W) → (repF g (l ++ x :: m) r w).1 = 2
  | [], r, w, W, x, m, h => by
    rw [repF] at h
    rw [List.nil_append, repF]
    rcases hs : strip r w with ⟨r', w'⟩
    rw [hs] at h
    cases r' with
    | cons s r' => simp at h
    | nil => rfl
  | y :: l, r, w, W, x, m, h => by
    rw [repF] at h
    rw [List.cons_append, repF]
    rcases hs : strip r w with ⟨r', w'⟩
    rw [hs] at h
    cases r' with
    | nil => simp at h
    | cons s r' =>
      simp only at h ⊢
      cases hp : okP g y s.n with
      | none => simp [hp] at h
      | some p =>
        rw [hp] at h
        simp only at h ⊢
        exact rep_prefix l _ _ W x m h

theorem rep_err {g : Gr} : ∀ (l : List Int) (r : List Sy) (w : List Int), (repF g l r w).1 = 0 ∨ ((repF g l r w).1 = 2 ∧ (repF g l r w).2 = []) ∨ ((repF g l r w).1 = 3 ∧ (repF g l r w).2 = [])
  | [], r, w => by
    rw [repF]
    rcases strip r w with ⟨r', w'⟩
    cases r' <;> simp
  | x :: l, r, w => by
    rw [repF]
    rcases strip r w with ⟨r', w'⟩
    cases r' with
    | nil => simp
    | cons s r' =>
      simp only
      cases okP g x s.n with
      | none => simp
      | some p => exact rep_err l _ _

/-! The top. -/

def startP (g : Gr) : Pt := mkP (-1) ⟨true, g.start⟩

def replayM (g : Gr) (l : List Int) : Int × Rs := if right g then (if 2000 < l.length then (5, ⟨[], [], []⟩) else repM g l ⟨[startP g], [], []⟩) else (1, ⟨[], [], []⟩)

/-- The word; the nodes. -/
def replayL (g : Gr) (l : List Int) : Int × List Int := if right g then (if 2000 < l.length then (5, []) else repF g l [⟨true, g.start⟩] []) else (1, [])

def nodesL (g : Gr) (l : List Int) : List Nd := if (replayM g l).1 = 0 then (replayM g l).2.nodes else []

theorem replay_same (g : Gr) (l : List Int) : (replayM g l).1 = (replayL g l).1 ∧ (replayL g l).2 = if (replayM g l).1 = 0 then (replayM g l).2.word else [] := by
  unfold replayM replayL
  split
  · split
    · simp
    · exact rep_same l ⟨[startP g], [], []⟩
  · simp

theorem replay_bld {g : Gr} {l : List Int} (h : (replayL g l).1 = 0) : ∃ ns at2, Bld g l [⟨true, g.start⟩] 0 0 [0] ns l.length at2 ∧ nodesL g l = ns := by
  have e := (replay_same g l).1
  rw [h] at e
  have hn : nodesL g l = (replayM g l).2.nodes := by rw [nodesL, if_pos e]
  unfold replayL at h
  unfold replayM at e hn
  split at h
  · rename_i hr
    rw [if_pos hr] at e hn
    split at h
    · simp at h
    · rename_i hl
      rw [if_neg hl] at e hn
      have : repF g l [⟨true, g.start⟩] [] = (0, (repF g l [⟨true, g.start⟩] []).2) := by rw [← h]
      obtain ⟨pl, ns, at2, hb⟩ := bld_of (L := l) l _ _ _ 0 (Nat.zero_le _) rfl this
      obtain ⟨w', k1, k2⟩ := bld_run hb (-1) [] [] [] rfl (by simp)
      have hpl : pl = [0] := by
        cases hb with
        | non hj hp h1 h2 => cases h2; rfl
      subst hpl
      refine ⟨ns, at2, hb, ?_⟩
      rw [hn]
      have e2 : repM g l ⟨[startP g], [], []⟩ = repM g (l.drop l.length) ⟨[], w', extN (-1) [] [0] ++ ns⟩ := k2
      rw [e2, List.drop_length]
      simp [repM, runF, extN]
  · simp at h

/-! Ahead. -/

def lessL : List Int → List Int → Bool
  | _, [] => false
  | [], _ :: _ => true
  | a :: xs, b :: bs => if a = b then lessL xs bs else decide (a < b)

theorem less_irrefl : ∀ a : List Int, lessL a a = false
  | [] => rfl
  | a :: xs => by rw [lessL, if_pos rfl]; exact less_irrefl xs

theorem less_asymm : ∀ {a b : List Int}, lessL a b = true → lessL b a = false
  | _, [], h => by cases ‹List Int› <;> cases h
  | [], _ :: _, _ => rfl
  | a :: xs, b :: bs, h => by
    rw [lessL] at h ⊢
    by_cases e : a = b
    · rw [if_pos e] at h
      rw [if_pos e.symm]
      exact less_asymm h
    · rw [if_neg e] at h
      rw [if_neg (Ne.symm e)]
      simp only [decide_eq_true_eq, decide_eq_false_iff_not] at h ⊢
      omega

theorem less_total : ∀ {a b : List Int}, a ≠ b → lessL a b = true ∨ lessL b a = true
  | [], [], h => absurd rfl h
  | [], _ :: _, _ => .inl rfl
  | _ :: _, [], _ => .inr rfl
  | a :: xs, b :: bs, h => by
    rw [lessL, lessL]
    by_cases e : a = b
    · rw [if_pos e, if_pos e.symm]
      subst e
      exact less_total fun e => h (by rw [e])
    · rw [if_neg e, if_neg (Ne.symm e)]
      simp only [decide_eq_true_eq]
      omega

end Go.Av
