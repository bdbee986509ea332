/-
  Texts S0, S1, S2, S3, S4, S5 of this work, one behind the other. Conditions: none.
-/
import Derived.Test.YtiiogleijmcccaaBB
import Derived.Test.YtiiogleijmcccaaCC
import Derived.Test.YtiiogleijmcccaaD1

/-
  Tables of bools that lie in live blocks; and frozen. Conditions: none.
-/
namespace Go.Av
open Go.Proofs
set_option linter.unusedSimpArgs false
set_option linter.unusedVariables false

def e1 (k : Nat) (f : Nat → Bool) : List (List AV) := (List.range k).map fun j => [.bool (f j)]
def e2 (m k : Nat) (f : Nat → Nat → Bool) : List (List AV) := (List.range m).map fun i => [.ro (e1 k (f i))]
def e3 (n m k : Nat) (f : Nat → Nat → Nat → Bool) : List (List AV) := (List.range n).map fun i => [.ro (e2 m k (f i))]

theorem e1_len {k : Nat} {f : Nat → Bool} : (e1 k f).length = k := by simp [e1]
theorem e1_congr {k : Nat} {f g : Nat → Bool} (h : ∀ j, j < k → f j = g j) : e1 k f = e1 k g := by
  unfold e1
  exact List.map_congr_left fun j hj => by rw [h j (List.mem_range.1 hj)]

/-- Slices into blocks, one behind the other. -/
def slL (k : Nat) (f : Nat → Nat) (m : Nat) : List (List AV) := (List.range m).map fun i => [.sl (f i) 0 k 1]

theorem slL_len {k m : Nat} {f : Nat → Nat} : (slL k f m).length = m := by simp [slL]
/-- A row in a live block. -/
def T1 (h : Heap) (b k : Nat) (f : Nat → Bool) : Prop := h b = some (.cells (e1 k f))

/-- Rows, each in its block; all blocks lie from lo on, below hi. -/
structure T2 (h : Heap) (lo hi b : Nat) (leaf : Nat → Nat) (m k : Nat) (f : Nat → Nat → Bool) : Prop where
  lob : lo ≤ b
  hib : b < hi
  top : h b = some (.cells (slL k leaf m))
  at' : ∀ i, i < m → lo ≤ leaf i ∧ leaf i < hi ∧ leaf i ≠ b
  row : ∀ i, i < m → T1 h (leaf i) k (f i)
  inj : ∀ i j, i < m → j < m → leaf i = leaf j → i = j

/-- Tables, each in blocks of an own range. -/
structure T3 (h : Heap) (lo hi top : Nat) (cut mid : Nat → Nat) (leaf : Nat → Nat → Nat) (n m k : Nat) (f : Nat → Nat → Nat → Bool) : Prop where
  lob : lo ≤ cut 0
  mono : ∀ i, cut i ≤ cut (i + 1)
  hib : top < hi
  up : cut n ≤ top
  top : h top = some (.cells (slL m mid n))
  tab : ∀ i, i < n → T2 h (cut i) (cut (i + 1)) (mid i) (leaf i) m k (f i)

theorem T2.frame {h h' : Heap} {lo hi b : Nat} {leaf : Nat → Nat} {m k : Nat} {f : Nat → Nat → Bool} (t : T2 h lo hi b leaf m k f) (e : ∀ x, lo ≤ x → x < hi → h' x = h x) : T2 h' lo hi b leaf m k f :=
  ⟨t.lob, t.hib, (e _ t.lob t.hib).trans t.top, t.at', fun i hi => (e _ (t.at' i hi).1 (t.at' i hi).2.1).trans (t.row i hi), t.inj⟩

theorem mono_le {cut : Nat → Nat} (h : ∀ i, cut i ≤ cut (i + 1)) {i j : Nat} (hij : i ≤ j) : cut i ≤ cut j := by
  induction j with
  | zero => have : i = 0 := by omega
            subst this; exact Nat.le_refl _
  | succ j ih =>
    by_cases e : i = j + 1
    · subst e; exact Nat.le_refl _
    · exact Nat.le_trans (ih (by omega)) (h j)

theorem T3.frame {h h' : Heap} {lo hi top : Nat} {cut mid : Nat → Nat} {leaf : Nat → Nat → Nat} {n m k : Nat} {f : Nat → Nat → Nat → Bool} (t : T3 h lo hi top cut mid leaf n m k f) (e : ∀ x, lo ≤ x → x < hi → h' x = h x) : T3 h' lo hi top cut mid leaf n m k f := by
  have h1 : ∀ i, cut 0 ≤ cut i := fun i => mono_le t.mono (Nat.zero_le i)
  refine ⟨t.lob, t.mono, t.hib, t.up, (e _ (by have := h1 n; have := t.lob; have := t.up; omega) t.hib).trans t.top, fun i hi => (t.tab i hi).frame fun x hx hx' => e x (by have := h1 i; have := t.lob; omega) ?_⟩
  have : cut (i + 1) ≤ cut n := mono_le t.mono (by omega)
  have := t.up
  have := t.hib
  omega

/-- One place is written. -/
theorem T3.set {h : Heap} {lo hi top : Nat} {cut mid : Nat → Nat} {leaf : Nat → Nat → Nat} {n m k : Nat} {f : Nat → Nat → Nat → Bool} (t : T3 h lo hi top cut mid leaf n m k f) {i a b : Nat} {v : Bool} (hi' : i < n) (ha : a < m) :
    T3 (upd h (leaf i a) (some (.cells (e1 k fun x => if x = b then v else f i a x)))) lo hi top cut mid leaf n m k (fun i' a' b' => if i' = i ∧ a' = a ∧ b' = b then v else f i' a' b') := by
  have ti := t.tab i hi'
  have hl := ti.at' a ha
  have hup : cut (i + 1) ≤ top := Nat.le_trans (mono_le t.mono (by omega)) t.up
  refine ⟨t.lob, t.mono, t.hib, t.up, ?_, fun j hj => ?_⟩
  · rw [upd_app, if_neg (by omega)]; exact t.top
  · have tj := t.tab j hj
    by_cases e : j = i
    · subst e
      refine ⟨tj.lob, tj.hib, ?_, tj.at', fun x hx => ?_, tj.inj⟩
      · rw [upd_app, if_neg (Ne.symm hl.2.2)]; exact tj.top
      · unfold T1
        rw [upd_app]
        by_cases ex : x = a
        · subst ex
          rw [if_pos rfl]
          congr 2
          exact e1_congr fun y _ => by simp
        · rw [if_neg fun h => ex (tj.inj _ _ hx ha h)]
          have := tj.row x hx
          unfold T1 at this
          rw [this]
          congr 2
          exact e1_congr fun y _ => by simp [ex]
    · refine T2.frame (h := h) ?_ fun x hx hx' => ?_
      · have : (fun a' b' => if j = i ∧ a' = a ∧ b' = b then v else f j a' b') = f j := by funext a' b'; simp [e]
        rw [this]; exact tj
      · rw [upd_app, if_neg]
        intro ex
        rcases Nat.lt_or_gt_of_ne e with h1 | h1
        · have : cut (j + 1) ≤ cut i := mono_le t.mono (by omega)
          omega
        · have : cut (i + 1) ≤ cut j := mono_le t.mono (by omega)
          omega

theorem rfs_one {fr : Bool} {d : Nat} {h : Heap} {a a' : AV} (ha : rf fr (d + 1) h a = some a') : rfs fr (d + 2) h [a] = some [a'] := by
  unfold rfs
  simp [ha]

theorem mapM_map {α β γ : Type} {f : β → Option γ} {g : α → β} {r : α → γ} : ∀ l : List α, (∀ x ∈ l, f (g x) = some (r x)) → (l.map g).mapM f = some (l.map r)
  | [], _ => rfl
  | x :: l, h => by
    rw [List.map_cons, List.mapM_cons, h x (by simp), mapM_map l fun y hy => h y (by simp [hy])]
    rfl

theorem rfe_map {α : Type} {fr : Bool} {d : Nat} {h : Heap} {g r : α → List AV} {l : List α} (e : ∀ x ∈ l, rfs fr d h (g x) = some (r x)) : rfe fr (d + 1) h (l.map g) = some (l.map r) := by
  unfold rfe
  exact mapM_map l e

theorem rfe_e1 {fr : Bool} {d k : Nat} {h : Heap} {f : Nat → Bool} : rfe fr (d + 3) h (e1 k f) = some (e1 k f) :=
  rfe_map fun x _ => by simp [rfs, rf]

theorem rf_sla {fr : Bool} {d : Nat} {h : Heap} {b len sz : Nat} {es es' : List (List AV)} (hb : h b = some (.cells es)) (hl : len = es.length) (he : rfe fr d h es = some es') : rf fr (d + 1) h (.sl b 0 len sz) = some (.ro es') := by
  subst hl
  unfold rf
  have e : List.take es.length (List.drop 0 es) = es := by rw [List.drop_zero, List.take_of_length_le (Nat.le_refl _)]
  simp only [hb, e, he]
  simp

theorem T1.frz {fr : Bool} {d : Nat} {h : Heap} {b k : Nat} {f : Nat → Bool} (t : T1 h b k f) : rf fr (d + 4) h (.sl b 0 k 1) = some (.ro (e1 k f)) := rf_sla t e1_len.symm rfe_e1

theorem T2.frz {fr : Bool} {d : Nat} {h : Heap} {lo hi b : Nat} {leaf : Nat → Nat} {m k : Nat} {f : Nat → Nat → Bool} (t : T2 h lo hi b leaf m k f) : rf fr (d + 7) h (.sl b 0 m 1) = some (.ro (e2 m k f)) :=
  rf_sla t.top slL_len.symm (rfe_map fun i hi => rfs_one (t.row i (List.mem_range.1 hi)).frz)

theorem T3.frz {fr : Bool} {d : Nat} {h : Heap} {lo hi top : Nat} {cut mid : Nat → Nat} {leaf : Nat → Nat → Nat} {n m k : Nat} {f : Nat → Nat → Nat → Bool} (t : T3 h lo hi top cut mid leaf n m k f) : rf fr (d + 10) h (.sl top 0 n 1) = some (.ro (e3 n m k f)) :=
  rf_sla t.top slL_len.symm (rfe_map fun i hi => rfs_one (t.tab i (List.mem_range.1 hi)).frz)

/-! ### How many places are false -/
def falses (n m k : Nat) (f : Nat → Nat → Nat → Bool) : Nat := (List.range (n * m * k)).countP fun x => !f (x / k / m) (x / k % m) (x % k)

/-- From a place, by rows one behind the other. -/
def stepRow (at' : Nat → Bool) (f : Nat → Nat → Bool) (b : Nat) : Bool := (List.range (b + 1)).any fun a => at' a && f a b

def rowF (l : List (Nat → Nat → Bool)) (a : Nat) : Nat → Bool := l.foldl stepRow fun b => decide (b = a)

/-- .. as a chain. -/
def Ch : List (Nat → Nat → Bool) → Nat → Nat → Prop
  | [], a, c => a = c
  | f :: l, a, c => ∃ b, a ≤ b ∧ f a b = true ∧ Ch l b c

end Go.Av

/-
  What comes of grammars, by definition: rows, tokens, empty tables. Conditions: none.
-/
namespace Go.Av
open Go.Proofs
set_option maxRecDepth 100000
set_option linter.unusedSimpArgs false
set_option linter.unusedVariables false

/-- What the rows from below a lead to. -/
def nxA (at' : Nat → Bool) (f : Nat → Nat → Bool) (a : Nat) (x : Nat) : Bool := (List.range a).any fun a' => decide (a' ≤ x) && (at' a' && f a' x)

/-- .. and from a itself, to places below bb. -/
def nxB (at' : Nat → Bool) (f : Nat → Nat → Bool) (a bb : Nat) (x : Nat) : Bool := nxA at' f a x || (at' a && (decide (a ≤ x) && (decide (x < bb) && f a x)))

end Go.Av

/-
  What comes of grammars, by definition: tables that say nothing. Conditions: none.
-/
namespace Go.Av
open Go.Proofs
set_option maxRecDepth 100000
set_option linter.unusedSimpArgs false
set_option linter.unusedVariables false

/-- Rows being built: a of them, in blocks from c on, below n. -/
def Part (h : Heap) (c n : Nat) (v : AV) (leaf : Nat → Nat) (a N : Nat) : Prop :=
  (a = 0 ∧ v = .nils) ∨ ∃ b, v = .sl b 0 a 1 ∧ T2 h c n b leaf a N fun _ _ => false

/-- Tables being built. -/
def Parts (h : Heap) (c n : Nat) (v : AV) (cut mid : Nat → Nat) (leaf : Nat → Nat → Nat) (i N : Nat) : Prop :=
  c ≤ cut 0 ∧ (∀ j, cut j ≤ cut (j + 1)) ∧ cut i ≤ n ∧ (∀ j, j < i → T2 h (cut j) (cut (j + 1)) (mid j) (leaf j) N N fun _ _ => false) ∧
  ((i = 0 ∧ v = .nils) ∨ ∃ top, v = .sl top 0 i 1 ∧ cut i ≤ top ∧ top < n ∧ h top = some (.cells (slL N mid i)))

end Go.Av

/-
  What comes of grammars, by definition: tokens. Conditions: none.
-/
namespace Go.Av
open Go.Proofs
set_option maxRecDepth 100000
set_option linter.unusedSimpArgs false
set_option linter.unusedVariables false

def tokF (w : List Int) (t : Int) (a b : Nat) : Bool := decide (b = a + 1) && decide (w[a]? = some t)

theorem T2.set {h : Heap} {lo hi b : Nat} {leaf : Nat → Nat} {m k : Nat} {f : Nat → Nat → Bool} (t : T2 h lo hi b leaf m k f) {a j : Nat} {v : Bool} (ha : a < m) :
    T2 (upd h (leaf a) (some (.cells (e1 k fun x => if x = j then v else f a x)))) lo hi b leaf m k (fun a' b' => if a' = a ∧ b' = j then v else f a' b') := by
  refine ⟨t.lob, t.hib, ?_, t.at', fun i hi => ?_, t.inj⟩
  · rw [upd_app, if_neg (Ne.symm (t.at' a ha).2.2)]; exact t.top
  · unfold T1
    rw [upd_app]
    by_cases e : i = a
    · subst e
      rw [if_pos rfl]
      congr 2
      exact e1_congr fun x _ => by simp
    · rw [if_neg fun h => e (t.inj _ _ hi ha h)]
      have := t.row i hi
      unfold T1 at this
      rw [this]
      congr 2
      exact e1_congr fun x _ => by simp [e]

end Go.Av

/-
  What comes of grammars, by definition: which part of a word comes of each nonterminal. Conditions: none.
-/
namespace Go.Av
open Go.Proofs
set_option maxRecDepth 100000
set_option linter.unusedSimpArgs false
set_option linter.unusedVariables false

/-- A grammar whose nonterminals are there. -/
def Gr.Dom (g : Gr) : Prop := 1 ≤ g.nons ∧ g.nons < 2 ^ 30 ∧ ∀ p ∈ g.prods, ((0 ≤ p.left ∧ p.left < g.nons) ∧ p.right.length < 2 ^ 30) ∧ ∀ s ∈ p.right, s.non = true → 0 ≤ s.n ∧ s.n < g.nons

def symF (w : List Int) (F : Nat → Nat → Nat → Bool) (s : Sy) : Nat → Nat → Bool := if s.non then F s.n.toNat else tokF w s.n

/-- Does a part of a word come of a nonterminal? -/
noncomputable def spanF (g : Gr) (w : List Int) (i a b : Nat) : Bool := @decide (Der g w [⟨true, (i : Int)⟩] a b) (Classical.propDecidable _)

/-- All that is said holds. -/
def Sd (g : Gr) (w : List Int) (M N : Nat) (F : Nat → Nat → Nat → Bool) : Prop := ∀ i a b, i < M → a < N → b < N → F i a b = true → Der g w [⟨true, (i : Int)⟩] a b

def closedAt (w : List Int) (F : Nat → Nat → Nat → Bool) (p : Pr) (a b : Nat) : Prop := Ch (p.right.map (symF w F)) a b → F p.left.toNat a b = true

theorem Ch.le : ∀ {l : List (Nat → Nat → Bool)} {a c : Nat}, Ch l a c → a ≤ c
  | [], a, c, h => by cases h; exact Nat.le_refl _
  | f :: l, a, c, ⟨b, h1, _, h3⟩ => Nat.le_trans h1 (Ch.le h3)

/-- What stands at all places of the walk. -/
structure SpC (g : Gr) (w : List Int) (lo hi top : Nat) (cut mid : Nat → Nat) (leaf : Nat → Nat → Nat) (M N : Nat) (t : Fr) (h : Heap) (n : Nat) (F : Nat → Nat → Nat → Bool) : Prop where
  e1 : t 1 = .ro (w.map eIn)
  e2 : t 2 = .ptr 0 0 0
  e5 : t 5 = .sl top 0 M 1
  m0 : h 0 = some (.cells [eGr g])
  T : T3 h lo hi top cut mid leaf M N N F
  hn : hi ≤ n

theorem SpC.next {g : Gr} {w : List Int} {lo hi top : Nat} {cut mid : Nat → Nat} {leaf : Nat → Nat → Nat} {M N : Nat} {t t' : Fr} {h h' : Heap} {n n' : Nat} {F : Nat → Nat → Nat → Bool} (c : SpC g w lo hi top cut mid leaf M N t h n F)
    (k1 : t' 1 = t 1) (k2 : t' 2 = t 2) (k5 : t' 5 = t 5) (kh : ∀ x, x < hi → h' x = h x) (kn : n ≤ n') : SpC g w lo hi top cut mid leaf M N t' h' n' F :=
  ⟨k1.trans c.e1, k2.trans c.e2, k5.trans c.e5, (kh 0 (by have := c.T.hib; omega)).trans c.m0, c.T.frame fun x _ hx => kh x hx, Nat.le_trans c.hn kn⟩

/-- A row's table: live, or frozen. -/
def symV (w : List Int) (mid : Nat → Nat) (N : Nat) (s : Sy) : List AV := [if s.non then .sl (mid s.n.toNat) 0 N 1 else .ro (e2 N N (tokF w s.n))]

theorem rfe_sym {g : Gr} {w : List Int} {lo hi top : Nat} {cut mid : Nat → Nat} {leaf : Nat → Nat → Nat} {M N : Nat} {h : Heap} {F : Nat → Nat → Nat → Bool} {d : Nat} (T : T3 h lo hi top cut mid leaf M N N F) (hM : (M : Int) = g.nons) {l : List Sy} (hd : ∀ s ∈ l, s.non = true → 0 ≤ s.n ∧ s.n < g.nons) :
    rfe true (d + 9) h (l.map (symV w mid N)) = some (l.map fun s => [.ro (e2 N N (symF w F s))]) :=
  rfe_map fun s hs => by
    obtain ⟨sn, n⟩ := s
    cases sn with
    | true =>
      have hr := hd ⟨true, n⟩ hs rfl
      simp only at hr
      exact rfs_one (T.tab n.toNat (by omega)).frz
    | false => exact rfs_one (by simp [rf, symF])

/-- The rows of a production's symbols. -/
def RowL (w : List Int) (mid : Nat → Nat) (N x' : Nat) (r : List Sy) (h : Heap) (n : Nat) (v : AV) : Prop :=
  (r = [] ∧ v = .nils) ∨ ∃ bl, v = .sl bl 0 r.length 1 ∧ x' ≤ bl ∧ bl < n ∧ h bl = some (.cells (r.map (symV w mid N)))

theorem RowL.next {w : List Int} {mid : Nat → Nat} {N x' : Nat} {r : List Sy} {h h' : Heap} {n n' : Nat} {v v' : AV} (c : RowL w mid N x' r h n v) (hv : v' = v) (hh : ∀ x, x' ≤ x → x < n → h' x = h x) (hn : n ≤ n') : RowL w mid N x' r h' n' v' := by
  subst hv
  rcases c with c | ⟨bl, c1, c2, c3, c4⟩
  · exact .inl c
  · exact .inr ⟨bl, c1, c2, by omega, (hh bl c2 c3).trans c4⟩

theorem RowL.frz {g : Gr} {w : List Int} {lo hi top : Nat} {cut mid : Nat → Nat} {leaf : Nat → Nat → Nat} {M N x' n : Nat} {r : List Sy} {h : Heap} {F : Nat → Nat → Nat → Bool} {v : AV} {d : Nat} (c : RowL w mid N x' r h n v) (T : T3 h lo hi top cut mid leaf M N N F) (hM : (M : Int) = g.nons)
    (hd : ∀ s ∈ r, s.non = true → 0 ≤ s.n ∧ s.n < g.nons) : rf true (d + 10) h v = some (.ro ((r.map (symF w F)).map fun f => [.ro (e2 N N f)])) := by
  rw [List.map_map]
  rcases c with ⟨rfl, rfl⟩ | ⟨bl, rfl, c2, c3, c4⟩
  · simp [rf]
  · exact rf_sla c4 (by simp) (rfe_sym T hM hd)

end Go.Av

/-
  Rows of numbers in live blocks. Conditions: none.
-/
namespace Go.Av
open Go.Proofs
set_option maxRecDepth 100000
set_option linter.unusedSimpArgs false
set_option linter.unusedVariables false

/-- Numbers in a live block from lo on; or none. -/
def IntL (h : Heap) (lo n : Nat) (v : AV) (l : List Int) : Prop := (l = [] ∧ v = .nils) ∨ ∃ b, v = .sl b 0 l.length 1 ∧ lo ≤ b ∧ b < n ∧ h b = some (.cells (l.map eIn))

theorem IntL.next {h h' : Heap} {lo n n' : Nat} {v v' : AV} {l : List Int} (c : IntL h lo n v l) (hv : v' = v) (hh : ∀ x, lo ≤ x → x < n → h' x = h x) (hn : n ≤ n') : IntL h' lo n' v' l := by
  subst hv
  rcases c with c | ⟨b, c1, c2, c3, c4⟩
  · exact .inl c
  · exact .inr ⟨b, c1, c2, by omega, (hh b c2 c3).trans c4⟩

theorem rfe_in {fr : Bool} {d : Nat} {h : Heap} {l : List Int} : rfe fr (d + 3) h (l.map eIn) = some (l.map eIn) := rfe_map fun x _ => by simp [rfs, rf, eIn]

theorem IntL.frz {fr : Bool} {h : Heap} {lo n d : Nat} {v : AV} {l : List Int} (c : IntL h lo n v l) : rf fr (d + 4) h v = some (.ro (l.map eIn)) := by
  rcases c with ⟨rfl, rfl⟩ | ⟨b, rfl, _, _, c⟩
  · simp [rf]
  · exact rf_sla c (by simp) rfe_in

end Go.Av
