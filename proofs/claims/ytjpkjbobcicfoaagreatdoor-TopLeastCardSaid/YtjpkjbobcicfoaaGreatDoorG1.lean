/-
  Layer 12, package follow: what stands behind nonterminals. Conditions: none.
-/
import Derived.Test.YtjpkjbobcicfoaaGreatDoorOB
import Derived.Test.YtjpkjbobcicfoaaGreatDoorCC
import Derived.Test.YtjpkjbobcicfoaaGreatDoorD1
set_option linter.unusedSimpArgs false
set_option linter.unusedVariables false
namespace Go.Av
open Go.Proofs
set_option maxRecDepth 100000
attribute [go_sem] jump
def isN (n : Int) (s : Sy) : Bool := s.non && decide (s.n = n)
def stands (p : Pr) (n : Int) : Bool := p.right.any (isN n)
end Go.Av
namespace Go.Av
open Go.Proofs
set_option maxRecDepth 100000
def eU3 (n : Nat) : List AV := [.int .u32 n]
attribute [go_sem] eU3
theorem wrapu32 {x : Int} (h1 : 0 ≤ x) (h2 : x < 4294967296) : IntKind.wrap .u32 x = x := by
  unfold IntKind.wrap
  simp only [IntKind.bits, IntKind.signed]
  simp
  omega
theorem wrapN {y : Nat} (h : y < 2 ^ 32) : IntKind.wrap .u32 (y : Int) = y := wrapu32 (by omega) (by omega)
theorem ofIntN (x : Nat) : BitVec.ofInt 32 (x : Int) = BitVec.ofNat 32 x := by
  apply BitVec.eq_of_toNat_eq
  simp [BitVec.toNat_ofInt]
theorem or32 {a b : Nat} (ha : a < 2 ^ 32) (hb : b < 2 ^ 32) : bitsOf .or .u32 (a : Int) (b : Int) = some ((a ||| b : Nat) : Int) := by
  show some (IntKind.wrap .u32 ((BitVec.ofInt 32 (a : Int) ||| BitVec.ofInt 32 (b : Int)).toNat : Int)) = _
  rw [ofIntN, ofIntN, BitVec.toNat_or, BitVec.toNat_ofNat, BitVec.toNat_ofNat, Nat.mod_eq_of_lt ha, Nat.mod_eq_of_lt hb, wrapN (Nat.or_lt_two_pow ha hb)]
theorem shl32 {t : Nat} (h : t < 32) : IntKind.wrap .u32 (1 * 2 ^ (min t 32)) = ((2 ^ t : Nat) : Int) := by
  have hp : 2 ^ t < 2 ^ 32 := Nat.pow_lt_pow_right (by decide) h
  have e : min t 32 = t := by omega
  rw [e, Int.one_mul]
  have e2 : (2 : Int) ^ t = ((2 ^ t : Nat) : Int) := by simp
  rw [e2, wrapN hp]
def rowW (sets : List Nat) (null : List Fc) : Nat → List Sy → Nat × Bool
  | out, [] => (out, true)
  | out, s :: l => if s.non then (if rk null s.n = 0 then (out ||| sets.getD s.n.toNat 0, false) else rowW sets null (out ||| sets.getD s.n.toNat 0) l) else (out ||| 2 ^ s.n.toNat, false)
def SyIn (M : Nat) (l : List Sy) : Prop := ∀ s ∈ l, 0 ≤ s.n ∧ if s.non then s.n < M else s.n < 32
def Lt32 (sets : List Nat) : Prop := ∀ s ∈ sets, s < 2 ^ 32
end Go.Av
namespace Go.Av
open Go.Proofs
set_option maxRecDepth 100000
def again (l : Nat) (K : Fr → Heap → Nat → Prop) (Q : AEx → Fr → Heap → Nat → Prop) : AEx → Fr → Heap → Nat → Prop
  | .goto l', t, h, n => if l' = l then K t h n else False
  | e, t, h, n => Q e t h n
attribute [go_sem] again
def addF (null : List Fc) (sets : List Nat) (p : Pr) : Nat := sets.getD p.left.toNat 0 ||| (rowW sets null 0 p.right).1
theorem Lt32.set {sets : List Nat} {a v : Nat} (h : Lt32 sets) (hv : v < 2 ^ 32) : Lt32 (sets.set a v) := by
  intro s hs
  rcases List.mem_or_eq_of_mem_set hs with h' | rfl
  · exact h s h'
  · exact hv
end Go.Av
namespace Go.Av
open Go.Proofs
inductive Fst (g : Gr) (null : List Fc) : List Sy → Nat → Prop
  | term {t : Nat} {l : List Sy} : Fst g null (⟨false, (t : Int)⟩ :: l) t
  | non {p : Pr} {l : List Sy} {t : Nat} (hp : p ∈ g.prods) (h : Fst g null p.right t) : Fst g null (⟨true, p.left⟩ :: l) t
  | skip {n : Int} {l : List Sy} {t : Nat} (hn : rk null n ≠ 0) (h : Fst g null l t) : Fst g null (⟨true, n⟩ :: l) t
def rowB (B : Nat → Bool) (null : List Fc) (t : Nat) : List Sy → Bool
  | [] => false
  | s :: l => if s.non then B s.n.toNat || (decide (rk null s.n ≠ 0) && rowB B null t l) else decide (s.n.toNat = t)
theorem rowW_bit {sets : List Nat} {null : List Fc} {t : Nat} : ∀ (l : List Sy) (out : Nat), (rowW sets null out l).1.testBit t = (out.testBit t || rowB (fun n => (sets.getD n 0).testBit t) null t l)
  | [], out => by simp [rowW, rowB]
  | s :: l, out => by
    rw [rowW, rowB]
    split
    · split
      · rename_i h; simp [h, Nat.testBit_or]
      · rename_i h; rw [rowW_bit l]; simp [h, Nat.testBit_or, Bool.or_assoc]
    · simp [Nat.testBit_or, Nat.testBit_two_pow]
theorem addF_bit {null : List Fc} {sets : List Nat} {p : Pr} {t : Nat} : (addF null sets p).testBit t = ((sets.getD p.left.toNat 0).testBit t || rowB (fun n => (sets.getD n 0).testBit t) null t p.right) := by
  rw [addF, Nat.testBit_or, rowW_bit]; simp
def SSd (g : Gr) (null : List Fc) (sets : List Nat) : Prop := ∀ n t : Nat, n < sets.length → (sets.getD n 0).testBit t = true → Fst g null [⟨true, (n : Int)⟩] t
theorem Fst.mono {g : Gr} {null : List Fc} {l : List Sy} {t : Nat} (h : Fst g null l t) (m : List Sy) : Fst g null (l ++ m) t := by
  induction h with
  | term => exact .term
  | non hp h ih => exact .non hp h
  | skip hn h ih => exact .skip hn ih
theorem Fst.one {g : Gr} {null : List Fc} {n : Int} {t : Nat} {l : List Sy} (h : Fst g null [⟨true, n⟩] t) : Fst g null (⟨true, n⟩ :: l) t := h.mono l
theorem row_sd {g : Gr} {null : List Fc} {sets : List Nat} {t : Nat} (hs : SSd g null sets) : ∀ l : List Sy, SyIn sets.length l → rowB (fun n => (sets.getD n 0).testBit t) null t l = true → Fst g null l t
  | [], _, h => by cases h
  | s :: l, hd, h => by
    obtain ⟨sn, n⟩ := s
    obtain ⟨h0, h1⟩ := hd ⟨sn, n⟩ (by simp)
    simp only at h0
    obtain ⟨ν, rfl⟩ : ∃ ν : Nat, n = ν := ⟨n.toNat, by omega⟩
    rw [rowB] at h
    cases sn with
    | true =>
      simp only [if_true, Int.toNat_natCast, Bool.or_eq_true, Bool.and_eq_true, decide_eq_true_eq] at h h1
      rcases h with h | ⟨h2, h3⟩
      · exact (hs ν t (by omega) h).one
      · exact .skip h2 (row_sd hs l (fun y hy => hd y (by simp [hy])) h3)
    | false =>
      simp only [Bool.false_eq_true, if_false, Int.toNat_natCast, decide_eq_true_eq] at h
      subst h
      exact .term
theorem SSd.set {g : Gr} {null : List Fc} {sets : List Nat} {p : Pr} (hs : SSd g null sets) (hp : p ∈ g.prods) (h0 : 0 ≤ p.left) (hd : SyIn sets.length p.right) : SSd g null (sets.set p.left.toNat (addF null sets p)) := by
  intro n t hn hb
  rw [List.length_set] at hn
  by_cases e : n = p.left.toNat
  · subst e
    rw [List.getD_eq_getElem?_getD, List.getElem?_set, if_pos rfl, if_pos hn] at hb
    simp only [Option.getD_some] at hb
    rw [addF_bit, Bool.or_eq_true] at hb
    rcases hb with hb | hb
    · exact hs _ t hn hb
    · have : ((p.left.toNat : Nat) : Int) = p.left := by omega
      rw [this]
      exact .non hp (row_sd hs p.right hd hb)
  · rw [List.getD_eq_getElem?_getD, List.getElem?_set, if_neg (Ne.symm e), ← List.getD_eq_getElem?_getD] at hb
    exact hs n t hn hb
end Go.Av
namespace Go.Av
open Go.Proofs
def e1 (k : Nat) (f : Nat → Bool) : List (List AV) := (List.range k).map fun j => [.bool (f j)]
def e2 (m k : Nat) (f : Nat → Nat → Bool) : List (List AV) := (List.range m).map fun i => [.ro (e1 k (f i))]
def e3 (n m k : Nat) (f : Nat → Nat → Nat → Bool) : List (List AV) := (List.range n).map fun i => [.ro (e2 m k (f i))]
theorem e1_len {k : Nat} {f : Nat → Bool} : (e1 k f).length = k := by simp [e1]
theorem e1_congr {k : Nat} {f g : Nat → Bool} (h : ∀ j, j < k → f j = g j) : e1 k f = e1 k g := by
  unfold e1
  exact List.map_congr_left fun j hj => by rw [h j (List.mem_range.1 hj)]
def slL (k : Nat) (f : Nat → Nat) (m : Nat) : List (List AV) := (List.range m).map fun i => [.sl (f i) 0 k 1]
theorem slL_len {k m : Nat} {f : Nat → Nat} : (slL k f m).length = m := by simp [slL]
def T1 (h : Heap) (b k : Nat) (f : Nat → Bool) : Prop := h b = some (.cells (e1 k f))
structure T2 (h : Heap) (lo hi b : Nat) (leaf : Nat → Nat) (m k : Nat) (f : Nat → Nat → Bool) : Prop where
  lob : lo ≤ b
  hib : b < hi
  top : h b = some (.cells (slL k leaf m))
  at' : ∀ i, i < m → lo ≤ leaf i ∧ leaf i < hi ∧ leaf i ≠ b
  row : ∀ i, i < m → T1 h (leaf i) k (f i)
  inj : ∀ i j, i < m → j < m → leaf i = leaf j → i = j
structure T3 (h : Heap) (lo hi top : Nat) (cut mid : Nat → Nat) (leaf : Nat → Nat → Nat) (n m k : Nat) (f : Nat → Nat → Nat → Bool) : Prop where
  lob : lo ≤ cut 0
  mono : ∀ i, cut i ≤ cut (i + 1)
  hib : top < hi
  up : cut n ≤ top
  top : h top = some (.cells (slL m mid n))
  tab : ∀ i, i < n → T2 h (cut i) (cut (i + 1)) (mid i) (leaf i) m k (f i)
theorem T2.frame {h h' : Heap} {lo hi b : Nat} {leaf : Nat → Nat} {m k : Nat} {f : Nat → Nat → Bool} (t : T2 h lo hi b leaf m k f) (e : ∀ x, lo ≤ x → x < hi → h' x = h x) : T2 h' lo hi b leaf m k f :=
  ⟨t.lob, t.hib, (e _ t.lob t.hib).trans t.top, t.at', fun i hi => (e _ (t.at' i hi).1 (t.at' i hi).2.1).trans (t.row i hi), t.inj⟩
theorem mono_le {cut : Nat → Nat} (h : ∀ i, cut i ≤ cut (i + 1)) {i j : Nat} (hij : i ≤ j) : cut i ≤ cut j := by
  induction j with
  | zero => have : i = 0 := by omega
            subst this; exact Nat.le_refl _
  | succ j ih =>
    by_cases e : i = j + 1
    · subst e; exact Nat.le_refl _
    · exact Nat.le_trans (ih (by omega)) (h j)
theorem T3.frame {h h' : Heap} {lo hi top : Nat} {cut mid : Nat → Nat} {leaf : Nat → Nat → Nat} {n m k : Nat} {f : Nat → Nat → Nat → Bool} (t : T3 h lo hi top cut mid leaf n m k f) (e : ∀ x, lo ≤ x → x < hi → h' x = h x) : T3 h' lo hi top cut mid leaf n m k f := by
  have h1 : ∀ i, cut 0 ≤ cut i := fun i => mono_le t.mono (Nat.zero_le i)
  refine ⟨t.lob, t.mono, t.hib, t.up, (e _ (by have := h1 n; have := t.lob; have := t.up; omega) t.hib).trans t.top, fun i hi => (t.tab i hi).frame fun x hx hx' => e x (by have := h1 i; have := t.lob; omega) ?_⟩
  have : cut (i + 1) ≤ cut n := mono_le t.mono (by omega)
  have := t.up
  have := t.hib
  omega
theorem T3.set {h : Heap} {lo hi top : Nat} {cut mid : Nat → Nat} {leaf : Nat → Nat → Nat} {n m k : Nat} {f : Nat → Nat → Nat → Bool} (t : T3 h lo hi top cut mid leaf n m k f) {i a b : Nat} {v : Bool} (hi' : i < n) (ha : a < m) :
    T3 (upd h (leaf i a) (some (.cells (e1 k fun x => if x = b then v else f i a x)))) lo hi top cut mid leaf n m k (fun i' a' b' => if i' = i ∧ a' = a ∧ b' = b then v else f i' a' b') := by
  have ti := t.tab i hi'
  have hl := ti.at' a ha
  have hup : cut (i + 1) ≤ top := Nat.le_trans (mono_le t.mono (by omega)) t.up
  refine ⟨t.lob, t.mono, t.hib, t.up, ?_, fun j hj => ?_⟩
  · rw [upd_app, if_neg (by omega)]; exact t.top
  · have tj := t.tab j hj
    by_cases e : j = i
    · subst e
      refine ⟨tj.lob, tj.hib, ?_, tj.at', fun x hx => ?_, tj.inj⟩
      · rw [upd_app, if_neg (Ne.symm hl.2.2)]; exact tj.top
      · unfold T1
        rw [upd_app]
        by_cases ex : x = a
        · subst ex
          rw [if_pos rfl]
          congr 2
          exact e1_congr fun y _ => by simp
        · rw [if_neg fun h => ex (tj.inj _ _ hx ha h)]
          have := tj.row x hx
          unfold T1 at this
          rw [this]
          congr 2
          exact e1_congr fun y _ => by simp [ex]
    · refine T2.frame (h := h) ?_ fun x hx hx' => ?_
      · have : (fun a' b' => if j = i ∧ a' = a ∧ b' = b then v else f j a' b') = f j := by funext a' b'; simp [e]
        rw [this]; exact tj
      · rw [upd_app, if_neg]
        intro ex
        rcases Nat.lt_or_gt_of_ne e with h1 | h1
        · have : cut (j + 1) ≤ cut i := mono_le t.mono (by omega)
          omega
        · have : cut (i + 1) ≤ cut j := mono_le t.mono (by omega)
          omega
theorem rfs_one {fr : Bool} {d : Nat} {h : Heap} {a a' : AV} (ha : rf fr (d + 1) h a = some a') : rfs fr (d + 2) h [a] = some [a'] := by
  unfold rfs
  simp [ha]
theorem mapM_map {α β γ : Type} {f : β → Option γ} {g : α → β} {r : α → γ} : ∀ l : List α, (∀ x ∈ l, f (g x) = some (r x)) → (l.map g).mapM f = some (l.map r)
  | [], _ => rfl
  | x :: l, h => by
    rw [List.map_cons, List.mapM_cons, h x (by simp), mapM_map l fun y hy => h y (by simp [hy])]
    rfl
theorem rfe_map {α : Type} {fr : Bool} {d : Nat} {h : Heap} {g r : α → List AV} {l : List α} (e : ∀ x ∈ l, rfs fr d h (g x) = some (r x)) : rfe fr (d + 1) h (l.map g) = some (l.map r) := by
  unfold rfe
  exact mapM_map l e
theorem rfe_e1 {fr : Bool} {d k : Nat} {h : Heap} {f : Nat → Bool} : rfe fr (d + 3) h (e1 k f) = some (e1 k f) :=
  rfe_map fun x _ => by simp [rfs, rf]
theorem rf_sla {fr : Bool} {d : Nat} {h : Heap} {b len sz : Nat} {es es' : List (List AV)} (hb : h b = some (.cells es)) (hl : len = es.length) (he : rfe fr d h es = some es') : rf fr (d + 1) h (.sl b 0 len sz) = some (.ro es') := by
  subst hl
  unfold rf
  have e : List.take es.length (List.drop 0 es) = es := by rw [List.drop_zero, List.take_of_length_le (Nat.le_refl _)]
  simp only [hb, e, he]
  simp
theorem T1.frz {fr : Bool} {d : Nat} {h : Heap} {b k : Nat} {f : Nat → Bool} (t : T1 h b k f) : rf fr (d + 4) h (.sl b 0 k 1) = some (.ro (e1 k f)) := rf_sla t e1_len.symm rfe_e1
theorem T2.frz {fr : Bool} {d : Nat} {h : Heap} {lo hi b : Nat} {leaf : Nat → Nat} {m k : Nat} {f : Nat → Nat → Bool} (t : T2 h lo hi b leaf m k f) : rf fr (d + 7) h (.sl b 0 m 1) = some (.ro (e2 m k f)) :=
  rf_sla t.top slL_len.symm (rfe_map fun i hi => rfs_one (t.row i (List.mem_range.1 hi)).frz)
theorem T3.frz {fr : Bool} {d : Nat} {h : Heap} {lo hi top : Nat} {cut mid : Nat → Nat} {leaf : Nat → Nat → Nat} {n m k : Nat} {f : Nat → Nat → Nat → Bool} (t : T3 h lo hi top cut mid leaf n m k f) : rf fr (d + 10) h (.sl top 0 n 1) = some (.ro (e3 n m k f)) :=
  rf_sla t.top slL_len.symm (rfe_map fun i hi => rfs_one (t.tab i (List.mem_range.1 hi)).frz)
def Ch : List (Nat → Nat → Bool) → Nat → Nat → Prop
  | [], a, c => a = c
  | f :: l, a, c => ∃ b, a ≤ b ∧ f a b = true ∧ Ch l b c
end Go.Av
namespace Go.Av
open Go.Proofs
set_option maxRecDepth 100000
end Go.Av
namespace Go.Av
open Go.Proofs
set_option maxRecDepth 100000
end Go.Av
namespace Go.Av
open Go.Proofs
set_option maxRecDepth 100000
def tokF (w : List Int) (t : Int) (a b : Nat) : Bool := decide (b = a + 1) && decide (w[a]? = some t)
theorem T2.set {h : Heap} {lo hi b : Nat} {leaf : Nat → Nat} {m k : Nat} {f : Nat → Nat → Bool} (t : T2 h lo hi b leaf m k f) {a j : Nat} {v : Bool} (ha : a < m) :
    T2 (upd h (leaf a) (some (.cells (e1 k fun x => if x = j then v else f a x)))) lo hi b leaf m k (fun a' b' => if a' = a ∧ b' = j then v else f a' b') := by
  refine ⟨t.lob, t.hib, ?_, t.at', fun i hi => ?_, t.inj⟩
  · rw [upd_app, if_neg (Ne.symm (t.at' a ha).2.2)]; exact t.top
  · unfold T1
    rw [upd_app]
    by_cases e : i = a
    · subst e
      rw [if_pos rfl]
      congr 2
      exact e1_congr fun x _ => by simp
    · rw [if_neg fun h => e (t.inj _ _ hi ha h)]
      have := t.row i hi
      unfold T1 at this
      rw [this]
      congr 2
      exact e1_congr fun x _ => by simp [e]
end Go.Av
namespace Go.Av
open Go.Proofs
set_option maxRecDepth 100000
def symF (w : List Int) (F : Nat → Nat → Nat → Bool) (s : Sy) : Nat → Nat → Bool := if s.non then F s.n.toNat else tokF w s.n
theorem Ch.le : ∀ {l : List (Nat → Nat → Bool)} {a c : Nat}, Ch l a c → a ≤ c
  | [], a, c, h => by cases h; exact Nat.le_refl _
  | f :: l, a, c, ⟨b, h1, _, h3⟩ => Nat.le_trans h1 (Ch.le h3)
structure SpC (g : Gr) (w : List Int) (lo hi top : Nat) (cut mid : Nat → Nat) (leaf : Nat → Nat → Nat) (M N : Nat) (t : Fr) (h : Heap) (n : Nat) (F : Nat → Nat → Nat → Bool) : Prop where
  e1 : t 1 = .ro (w.map eIn)
  e2 : t 2 = .ptr 0 0 0
  e5 : t 5 = .sl top 0 M 1
  m0 : h 0 = some (.cells [eGr g])
  T : T3 h lo hi top cut mid leaf M N N F
  hn : hi ≤ n
theorem SpC.next {g : Gr} {w : List Int} {lo hi top : Nat} {cut mid : Nat → Nat} {leaf : Nat → Nat → Nat} {M N : Nat} {t t' : Fr} {h h' : Heap} {n n' : Nat} {F : Nat → Nat → Nat → Bool} (c : SpC g w lo hi top cut mid leaf M N t h n F)
    (k1 : t' 1 = t 1) (k2 : t' 2 = t 2) (k5 : t' 5 = t 5) (kh : ∀ x, x < hi → h' x = h x) (kn : n ≤ n') : SpC g w lo hi top cut mid leaf M N t' h' n' F :=
  ⟨k1.trans c.e1, k2.trans c.e2, k5.trans c.e5, (kh 0 (by have := c.T.hib; omega)).trans c.m0, c.T.frame fun x _ hx => kh x hx, Nat.le_trans c.hn kn⟩
def symV (w : List Int) (mid : Nat → Nat) (N : Nat) (s : Sy) : List AV := [if s.non then .sl (mid s.n.toNat) 0 N 1 else .ro (e2 N N (tokF w s.n))]
theorem rfe_sym {g : Gr} {w : List Int} {lo hi top : Nat} {cut mid : Nat → Nat} {leaf : Nat → Nat → Nat} {M N : Nat} {h : Heap} {F : Nat → Nat → Nat → Bool} {d : Nat} (T : T3 h lo hi top cut mid leaf M N N F) (hM : (M : Int) = g.nons) {l : List Sy} (hd : ∀ s ∈ l, s.non = true → 0 ≤ s.n ∧ s.n < g.nons) :
    rfe true (d + 9) h (l.map (symV w mid N)) = some (l.map fun s => [.ro (e2 N N (symF w F s))]) :=
  rfe_map fun s hs => by
    obtain ⟨sn, n⟩ := s
    cases sn with
    | true =>
      have hr := hd ⟨true, n⟩ hs rfl
      simp only at hr
      exact rfs_one (T.tab n.toNat (by omega)).frz
    | false => exact rfs_one (by simp [rf, symF])
def RowL (w : List Int) (mid : Nat → Nat) (N x' : Nat) (r : List Sy) (h : Heap) (n : Nat) (v : AV) : Prop :=
  (r = [] ∧ v = .nils) ∨ ∃ bl, v = .sl bl 0 r.length 1 ∧ x' ≤ bl ∧ bl < n ∧ h bl = some (.cells (r.map (symV w mid N)))
theorem RowL.next {w : List Int} {mid : Nat → Nat} {N x' : Nat} {r : List Sy} {h h' : Heap} {n n' : Nat} {v v' : AV} (c : RowL w mid N x' r h n v) (hv : v' = v) (hh : ∀ x, x' ≤ x → x < n → h' x = h x) (hn : n ≤ n') : RowL w mid N x' r h' n' v' := by
  subst hv
  rcases c with c | ⟨bl, c1, c2, c3, c4⟩
  · exact .inl c
  · exact .inr ⟨bl, c1, c2, by omega, (hh bl c2 c3).trans c4⟩
theorem RowL.frz {g : Gr} {w : List Int} {lo hi top : Nat} {cut mid : Nat → Nat} {leaf : Nat → Nat → Nat} {M N x' n : Nat} {r : List Sy} {h : Heap} {F : Nat → Nat → Nat → Bool} {v : AV} {d : Nat} (c : RowL w mid N x' r h n v) (T : T3 h lo hi top cut mid leaf M N N F) (hM : (M : Int) = g.nons)
    (hd : ∀ s ∈ r, s.non = true → 0 ≤ s.n ∧ s.n < g.nons) : rf true (d + 10) h v = some (.ro ((r.map (symF w F)).map fun f => [.ro (e2 N N f)])) := by
  rw [List.map_map]
  rcases c with ⟨rfl, rfl⟩ | ⟨bl, rfl, c2, c3, c4⟩
  · simp [rf]
  · exact rf_sla c4 (by simp) (rfe_sym T hM hd)
end Go.Av
namespace Go.Av
open Go.Proofs
set_option maxRecDepth 100000
def IntL (h : Heap) (lo n : Nat) (v : AV) (l : List Int) : Prop := (l = [] ∧ v = .nils) ∨ ∃ b, v = .sl b 0 l.length 1 ∧ lo ≤ b ∧ b < n ∧ h b = some (.cells (l.map eIn))
theorem IntL.next {h h' : Heap} {lo n n' : Nat} {v v' : AV} {l : List Int} (c : IntL h lo n v l) (hv : v' = v) (hh : ∀ x, lo ≤ x → x < n → h' x = h x) (hn : n ≤ n') : IntL h' lo n' v' l := by
  subst hv
  rcases c with c | ⟨b, c1, c2, c3, c4⟩
  · exact .inl c
  · exact .inr ⟨b, c1, c2, by omega, (hh b c2 c3).trans c4⟩
theorem rfe_in {fr : Bool} {d : Nat} {h : Heap} {l : List Int} : rfe fr (d + 3) h (l.map eIn) = some (l.map eIn) := rfe_map fun x _ => by simp [rfs, rf, eIn]
theorem IntL.frz {fr : Bool} {h : Heap} {lo n d : Nat} {v : AV} {l : List Int} (c : IntL h lo n v l) : rf fr (d + 4) h v = some (.ro (l.map eIn)) := by
  rcases c with ⟨rfl, rfl⟩ | ⟨b, rfl, _, _, c⟩
  · simp [rf]
  · exact rf_sla c (by simp) rfe_in
end Go.Av
namespace Go.Av
open Go.Proofs
set_option maxRecDepth 100000
theorem rfe_u3 {fr : Bool} {d : Nat} {h : Heap} {l : List Nat} : rfe fr (d + 3) h (l.map eU3) = some (l.map eU3) := rfe_map fun x _ => by simp [rfs, rf, eU3]
theorem rf_u3 {fr : Bool} {d : Nat} {h : Heap} {b : Nat} {l : List Nat} (hb : h b = some (.cells (l.map eU3))) : rf fr (d + 4) h (.sl b 0 l.length 1) = some (.ro (l.map eU3)) := rf_sla hb (by simp) rfe_u3
def OwnU3 (l : List Nat) (r : AV) (h : Heap) : Prop := (l = [] ∧ (r = .nils ∨ r = .ro [])) ∨ ∃ b, r = .sl b 0 l.length 1 ∧ h b = some (.cells (l.map eU3))
theorem OwnU3.pf {f : FuncId} {args : List AV} {l : List Nat} (h : FH pg Tq f args h0 0 fun r h _ => OwnU3 l r h) : PF pg Tq f args (.ro (l.map eU3)) := by
  obtain ⟨r, h', n', hb, ho⟩ := h
  refine ⟨r, h', n', hb, 4, fun fr => ?_⟩
  rcases ho with ⟨rfl, rfl | rfl⟩ | ⟨b, rfl, hh⟩
  · simp [rf]
  · simp [rf]
  · exact rf_u3 hh
end Go.Av
namespace Go.Av
open Go.Proofs
theorem shr32 {x t : Nat} (h : t < 32) : (x : Int).fdiv (2 ^ (min t 32)) = ((x / 2 ^ t : Nat) : Int) := by
  rw [Nat.min_eq_left (by omega)]
  have e : (2 : Int) ^ t = ((2 ^ t : Nat) : Int) := by simp
  rw [e, Int.fdiv_eq_ediv_of_nonneg _ (Int.natCast_nonneg _)]
  rfl
theorem and32 {x : Nat} (hx : x < 2 ^ 32) : bitsOf .and .u32 (x : Int) 1 = some ((x % 2 : Nat) : Int) := by
  show some (IntKind.wrap .u32 ((BitVec.ofInt 32 (x : Int) &&& BitVec.ofInt 32 ((1 : Nat) : Int)).toNat : Int)) = _
  rw [ofIntN, ofIntN, BitVec.toNat_and, BitVec.toNat_ofNat, BitVec.toNat_ofNat, Nat.mod_eq_of_lt hx, Nat.mod_eq_of_lt (by decide : 1 < 2 ^ 32), Nat.and_one_is_mod, wrapN (by omega)]
theorem bit_zero {x t : Nat} : decide (((x / 2 ^ t % 2 : Nat) : Int) = 0) = !x.testBit t := by
  rw [Nat.testBit_eq_decide_div_mod_eq]
  have := Nat.mod_lt (x / 2 ^ t) (show 0 < 2 by decide)
  by_cases h : x / 2 ^ t % 2 = 1
  · simp [h]
  · have h0 : x / 2 ^ t % 2 = 0 := by omega
    simp [h0]
end Go.Av
namespace Go.Av
open Go.Proofs
set_option maxRecDepth 100000
def cB (f : Nat → Bool) : List AV := (List.range 32).map fun t => .bool (f t)
def eSt (n : Nat) : List AV := cB n.testBit
theorem rfs_bl {fr : Bool} {d : Nat} {h : Heap} {f : Nat → Bool} : ∀ l : List Nat, rfs fr (d + 2) h (l.map fun t => .bool (f t)) = some (l.map fun t => .bool (f t))
  | [] => rfs_nil
  | x :: l => rfs_cons (by simp [rf]) (rfs_bl l)
theorem rfs_st {fr : Bool} {d : Nat} {h : Heap} {x : Nat} : rfs fr (d + 2) h (eSt x) = some (eSt x) := rfs_bl _
theorem rfe_st {fr : Bool} {d : Nat} {h : Heap} {l : List Nat} : rfe fr (d + 3) h (l.map eSt) = some (l.map eSt) := rfe_map fun x _ => rfs_st
end Go.Av
namespace Go.Av
open Go.Proofs
set_option maxRecDepth 100000
def OwnSt (l : List Nat) (r : AV) (h : Heap) : Prop := (l = [] ∧ (r = .nils ∨ r = .ro [])) ∨ ∃ b, r = .sl b 0 l.length 32 ∧ h b = some (.cells (l.map eSt))
theorem rf_sts {fr : Bool} {d : Nat} {h : Heap} {b : Nat} {l : List Nat} (hb : h b = some (.cells (l.map eSt))) : rf fr (d + 4) h (.sl b 0 l.length 32) = some (.ro (l.map eSt)) := rf_sla hb (by simp) rfe_st
theorem OwnSt.pf {f : FuncId} {args : List AV} {l : List Nat} (h : FH pg Tq f args h0 0 fun r h _ => OwnSt l r h) : PF pg Tq f args (.ro (l.map eSt)) := by
  obtain ⟨r, h', n', hb, ho⟩ := h
  refine ⟨r, h', n', hb, 4, fun fr => ?_⟩
  rcases ho with ⟨rfl, rfl | rfl⟩ | ⟨b, rfl, hh⟩
  · simp [rf]
  · simp [rf]
  · exact rf_sts hh
end Go.Av
namespace Go.Av
open Go.Proofs
set_option maxRecDepth 100000
def SlL {α : Type} (e : α → List AV) (sz : Nat) (h : Heap) (lo n : Nat) (v : AV) (l : List α) : Prop := (l = [] ∧ v = .nils) ∨ ∃ b, v = .sl b 0 l.length sz ∧ lo ≤ b ∧ b < n ∧ h b = some (.cells (l.map e))
theorem SlL.next {α : Type} {e : α → List AV} {sz : Nat} {h h' : Heap} {lo lo' n n' : Nat} {v v' : AV} {l : List α} (c : SlL e sz h lo n v l) (hv : v' = v) (hh : ∀ x, lo ≤ x → x < n → h' x = h x) (hn : n ≤ n') (hl : lo' ≤ lo) : SlL e sz h' lo' n' v' l := by
  subst hv
  rcases c with c | ⟨b, c1, c2, c3, c4⟩
  · exact .inl c
  · exact .inr ⟨b, c1, by omega, by omega, by rw [hh b c2 c3]; exact c4⟩
theorem SlL.frz {α : Type} {e : α → List AV} {sz : Nat} {fr : Bool} {h : Heap} {lo n d : Nat} {v : AV} {l : List α} (c : SlL e sz h lo n v l) (he : ∀ x ∈ l, rfs fr d h (e x) = some (e x)) : rf fr (d + 2) h v = some (.ro (l.map e)) := by
  rcases c with ⟨rfl, rfl⟩ | ⟨b, rfl, _, _, c⟩
  · simp [rf]
  · exact rf_sla c (by simp) (rfe_map he)
theorem len_map {α : Type} {e : α → List AV} {sz : Nat} (he : ∀ x, (e x).length = sz) {l : List α} : (∀ y ∈ l.map e, y.length = sz) = True := by
  simp [he]
end Go.Av
