/-
  Tables of bools that lie in live blocks; and frozen. Conditions: none.
-/
import Derived.Test.YtiiogleijmcccaaB7
namespace Go.Av
open Go.Proofs
set_option linter.unusedSimpArgs false
set_option linter.unusedVariables false

def e1 (k : Nat) (f : Nat → Bool) : List (List AV) := (List.range k).map fun j => [.bool (f j)]
def e2 (m k : Nat) (f : Nat → Nat → Bool) : List (List AV) := (List.range m).map fun i => [.ro (e1 k (f i))]
def e3 (n m k : Nat) (f : Nat → Nat → Nat → Bool) : List (List AV) := (List.range n).map fun i => [.ro (e2 m k (f i))]

theorem e1_len {k : Nat} {f : Nat → Bool} : (e1 k f).length = k := by simp [e1]
theorem e2_len {m k : Nat} {f : Nat → Nat → Bool} : (e2 m k f).length = m := by simp [e2]
theorem e3_len {n m k : Nat} {f : Nat → Nat → Nat → Bool} : (e3 n m k f).length = n := by simp [e3]
theorem e1_get {k j : Nat} {f : Nat → Bool} (h : j < k) : (e1 k f)[j]? = some [.bool (f j)] := by simp [e1, h]
theorem e2_get {m k i : Nat} {f : Nat → Nat → Bool} (h : i < m) : (e2 m k f)[i]? = some [.ro (e1 k (f i))] := by simp [e2, h]
theorem e3_get {n m k i : Nat} {f : Nat → Nat → Nat → Bool} (h : i < n) : (e3 n m k f)[i]? = some [.ro (e2 m k (f i))] := by simp [e3, h]

theorem e1_congr {k : Nat} {f g : Nat → Bool} (h : ∀ j, j < k → f j = g j) : e1 k f = e1 k g := by
  unfold e1
  exact List.map_congr_left fun j hj => by rw [h j (List.mem_range.1 hj)]

theorem e2_congr {m k : Nat} {f g : Nat → Nat → Bool} (h : ∀ i j, i < m → j < k → f i j = g i j) : e2 m k f = e2 m k g := by
  unfold e2
  exact List.map_congr_left fun i hi => by rw [e1_congr fun j hj => h i j (List.mem_range.1 hi) hj]

theorem e3_congr {n m k : Nat} {f g : Nat → Nat → Nat → Bool} (h : ∀ i a b, i < n → a < m → b < k → f i a b = g i a b) : e3 n m k f = e3 n m k g := by
  unfold e3
  exact List.map_congr_left fun i hi => by rw [e2_congr fun a b ha hb => h i a b (List.mem_range.1 hi) ha hb]

theorem e1_set {k j : Nat} {f : Nat → Bool} {b : Bool} : (e1 k f).set j [.bool b] = e1 k (fun x => if x = j then b else f x) := by
  refine List.ext_getElem? fun i => ?_
  rw [List.getElem?_set]
  by_cases hi : i < k
  · rw [e1_get hi, e1_get hi, e1_len]
    by_cases e : j = i
    · subst e; simp [hi]
    · simp [e, Ne.symm e]
  · rw [List.getElem?_eq_none (by rw [e1_len]; omega), List.getElem?_eq_none (by rw [e1_len]; omega)]
    split
    · rw [if_neg (by rw [e1_len]; omega)]
    · rfl

theorem e1_false {k : Nat} : List.replicate k [AV.bool false] = e1 k fun _ => false := by
  unfold e1
  rw [List.map_const']
  simp

/-- Slices into blocks, one behind the other. -/
def slL (k : Nat) (f : Nat → Nat) (m : Nat) : List (List AV) := (List.range m).map fun i => [.sl (f i) 0 k 1]

theorem slL_len {k m : Nat} {f : Nat → Nat} : (slL k f m).length = m := by simp [slL]
theorem slL_get {k m i : Nat} {f : Nat → Nat} (h : i < m) : (slL k f m)[i]? = some [.sl (f i) 0 k 1] := by simp [slL, h]
theorem slL_congr {k m : Nat} {f g : Nat → Nat} (h : ∀ i, i < m → f i = g i) : slL k f m = slL k g m := List.map_congr_left fun i hi => by rw [h i (List.mem_range.1 hi)]
theorem slL_snoc {k m x : Nat} {f : Nat → Nat} : slL k f m ++ [[.sl x 0 k 1]] = slL k (fun j => if j = m then x else f j) (m + 1) := by
  have : slL k (fun j => if j = m then x else f j) m = slL k f m := slL_congr fun i hi => by simp [show ¬ i = m by omega]
  rw [← this]
  unfold slL
  rw [List.range_succ, List.map_append]
  simp

/-- A row in a live block. -/
def T1 (h : Heap) (b k : Nat) (f : Nat → Bool) : Prop := h b = some (.cells (e1 k f))

/-- Rows, each in its block; all blocks lie from lo on, below hi. -/
structure T2 (h : Heap) (lo hi b : Nat) (leaf : Nat → Nat) (m k : Nat) (f : Nat → Nat → Bool) : Prop where
  lob : lo ≤ b
  hib : b < hi
  top : h b = some (.cells (slL k leaf m))
  at' : ∀ i, i < m → lo ≤ leaf i ∧ leaf i < hi ∧ leaf i ≠ b
  row : ∀ i, i < m → T1 h (leaf i) k (f i)
  inj : ∀ i j, i < m → j < m → leaf i = leaf j → i = j

/-- Tables, each in blocks of an own range. -/
structure T3 (h : Heap) (lo hi top : Nat) (cut mid : Nat → Nat) (leaf : Nat → Nat → Nat) (n m k : Nat) (f : Nat → Nat → Nat → Bool) : Prop where
  lob : lo ≤ cut 0
  mono : ∀ i, cut i ≤ cut (i + 1)
  hib : top < hi
  up : cut n ≤ top
  top : h top = some (.cells (slL m mid n))
  tab : ∀ i, i < n → T2 h (cut i) (cut (i + 1)) (mid i) (leaf i) m k (f i)

theorem T2.frame {h h' : Heap} {lo hi b : Nat} {leaf : Nat → Nat} {m k : Nat} {f : Nat → Nat → Bool} (t : T2 h lo hi b leaf m k f) (e : ∀ x, lo ≤ x → x < hi → h' x = h x) : T2 h' lo hi b leaf m k f :=
  ⟨t.lob, t.hib, (e _ t.lob t.hib).trans t.top, t.at', fun i hi => (e _ (t.at' i hi).1 (t.at' i hi).2.1).trans (t.row i hi), t.inj⟩

theorem mono_le {cut : Nat → Nat} (h : ∀ i, cut i ≤ cut (i + 1)) {i j : Nat} (hij : i ≤ j) : cut i ≤ cut j := by
  induction j with
  | zero => have : i = 0 := by omega
            subst this; exact Nat.le_refl _
  | succ j ih =>
    by_cases e : i = j + 1
    · subst e; exact Nat.le_refl _
    · exact Nat.le_trans (ih (by omega)) (h j)

theorem T3.frame {h h' : Heap} {lo hi top : Nat} {cut mid : Nat → Nat} {leaf : Nat → Nat → Nat} {n m k : Nat} {f : Nat → Nat → Nat → Bool} (t : T3 h lo hi top cut mid leaf n m k f) (e : ∀ x, lo ≤ x → x < hi → h' x = h x) : T3 h' lo hi top cut mid leaf n m k f := by
  have h1 : ∀ i, cut 0 ≤ cut i := fun i => mono_le t.mono (Nat.zero_le i)
  refine ⟨t.lob, t.mono, t.hib, t.up, (e _ (by have := h1 n; have := t.lob; have := t.up; omega) t.hib).trans t.top, fun i hi => (t.tab i hi).frame fun x hx hx' => e x (by have := h1 i; have := t.lob; omega) ?_⟩
  have : cut (i + 1) ≤ cut n := mono_le t.mono (by omega)
  have := t.up
  have := t.hib
  omega

/-- One place is written. -/
theorem T3.set {h : Heap} {lo hi top : Nat} {cut mid : Nat → Nat} {leaf : Nat → Nat → Nat} {n m k : Nat} {f : Nat → Nat → Nat → Bool} (t : T3 h lo hi top cut mid leaf n m k f) {i a b : Nat} {v : Bool} (hi' : i < n) (ha : a < m) :
    T3 (upd h (leaf i a) (some (.cells (e1 k fun x => if x = b then v else f i a x)))) lo hi top cut mid leaf n m k (fun i' a' b' => if i' = i ∧ a' = a ∧ b' = b then v else f i' a' b') := by
  have ti := t.tab i hi'
  have hl := ti.at' a ha
  have hup : cut (i + 1) ≤ top := Nat.le_trans (mono_le t.mono (by omega)) t.up
  refine ⟨t.lob, t.mono, t.hib, t.up, ?_, fun j hj => ?_⟩
  · rw [upd_app, if_neg (by omega)]; exact t.top
  · have tj := t.tab j hj
    by_cases e : j = i
    · subst e
      refine ⟨tj.lob, tj.hib, ?_, tj.at', fun x hx => ?_, tj.inj⟩
      · rw [upd_app, if_neg (Ne.symm hl.2.2)]; exact tj.top
      · unfold T1
        rw [upd_app]
        by_cases ex : x = a
        · subst ex
          rw [if_pos rfl]
          congr 2
          exact e1_congr fun y _ => by simp
        · rw [if_neg fun h => ex (tj.inj _ _ hx ha h)]
          have := tj.row x hx
          unfold T1 at this
          rw [this]
          congr 2
          exact e1_congr fun y _ => by simp [ex]
    · refine T2.frame (h := h) ?_ fun x hx hx' => ?_
      · have : (fun a' b' => if j = i ∧ a' = a ∧ b' = b then v else f j a' b') = f j := by funext a' b'; simp [e]
        rw [this]; exact tj
      · rw [upd_app, if_neg]
        intro ex
        rcases Nat.lt_or_gt_of_ne e with h1 | h1
        · have : cut (j + 1) ≤ cut i := mono_le t.mono (by omega)
          omega
        · have : cut (i + 1) ≤ cut j := mono_le t.mono (by omega)
          omega

theorem rfs_one {fr : Bool} {d : Nat} {h : Heap} {a a' : AV} (ha : rf fr (d + 1) h a = some a') : rfs fr (d + 2) h [a] = some [a'] := by
  unfold rfs
  simp [ha]

theorem mapM_map {α β γ : Type} {f : β → Option γ} {g : α → β} {r : α → γ} : ∀ l : List α, (∀ x ∈ l, f (g x) = some (r x)) → (l.map g).mapM f = some (l.map r)
  | [], _ => rfl
  | x :: l, h => by
    rw [List.map_cons, List.mapM_cons, h x (by simp), mapM_map l fun y hy => h y (by simp [hy])]
    rfl

theorem rfe_map {α : Type} {fr : Bool} {d : Nat} {h : Heap} {g r : α → List AV} {l : List α} (e : ∀ x ∈ l, rfs fr d h (g x) = some (r x)) : rfe fr (d + 1) h (l.map g) = some (l.map r) := by
  unfold rfe
  exact mapM_map l e

theorem rfe_e1 {fr : Bool} {d k : Nat} {h : Heap} {f : Nat → Bool} : rfe fr (d + 3) h (e1 k f) = some (e1 k f) :=
  rfe_map fun x _ => by simp [rfs, rf]

theorem rf_sla {fr : Bool} {d : Nat} {h : Heap} {b len sz : Nat} {es es' : List (List AV)} (hb : h b = some (.cells es)) (hl : len = es.length) (he : rfe fr d h es = some es') : rf fr (d + 1) h (.sl b 0 len sz) = some (.ro es') := by
  subst hl
  unfold rf
  have e : List.take es.length (List.drop 0 es) = es := by rw [List.drop_zero, List.take_of_length_le (Nat.le_refl _)]
  simp only [hb, e, he]
  simp

theorem T1.frz {fr : Bool} {d : Nat} {h : Heap} {b k : Nat} {f : Nat → Bool} (t : T1 h b k f) : rf fr (d + 4) h (.sl b 0 k 1) = some (.ro (e1 k f)) := rf_sla t e1_len.symm rfe_e1

theorem T2.frz {fr : Bool} {d : Nat} {h : Heap} {lo hi b : Nat} {leaf : Nat → Nat} {m k : Nat} {f : Nat → Nat → Bool} (t : T2 h lo hi b leaf m k f) : rf fr (d + 7) h (.sl b 0 m 1) = some (.ro (e2 m k f)) :=
  rf_sla t.top slL_len.symm (rfe_map fun i hi => rfs_one (t.row i (List.mem_range.1 hi)).frz)

theorem T3.frz {fr : Bool} {d : Nat} {h : Heap} {lo hi top : Nat} {cut mid : Nat → Nat} {leaf : Nat → Nat → Nat} {n m k : Nat} {f : Nat → Nat → Nat → Bool} (t : T3 h lo hi top cut mid leaf n m k f) : rf fr (d + 10) h (.sl top 0 n 1) = some (.ro (e3 n m k f)) :=
  rf_sla t.top slL_len.symm (rfe_map fun i hi => rfs_one (t.tab i (List.mem_range.1 hi)).frz)

/-! ### How many places are false -/
def falses (n m k : Nat) (f : Nat → Nat → Nat → Bool) : Nat := (List.range (n * m * k)).countP fun x => !f (x / k / m) (x / k % m) (x % k)

theorem countP_lt {α : Type} {p q : α → Bool} : ∀ {l : List α}, (∀ x ∈ l, q x = true → p x = true) → (∃ x ∈ l, p x = true ∧ q x = false) → l.countP q < l.countP p
  | [], _, ⟨x, hx, _⟩ => by cases hx
  | y :: l, h, ⟨x, hx, hp, hq⟩ => by
    have hle : l.countP q ≤ l.countP p := List.countP_mono_left fun x hx => h x (by simp [hx])
    rw [List.countP_cons, List.countP_cons]
    rcases List.mem_cons.1 hx with rfl | hx
    · simp [hp, hq]; omega
    · have := countP_lt (p := p) (q := q) (fun x hx => h x (by simp [hx])) ⟨x, hx, hp, hq⟩
      have := h y (by simp)
      cases hqy : q y <;> cases hpy : p y <;> simp_all <;> omega

theorem falses_set {n m k i a b : Nat} {f : Nat → Nat → Nat → Bool} (hi : i < n) (ha : a < m) (hb : b < k) (h : f i a b = false) : falses n m k (fun i' a' b' => if i' = i ∧ a' = a ∧ b' = b then true else f i' a' b') < falses n m k f := by
  unfold falses
  refine countP_lt (fun x _ hx => ?_) ⟨(i * m + a) * k + b, ?_, ?_⟩
  · simp only [Bool.not_eq_true'] at hx ⊢
    revert hx
    split
    · simp
    · exact id
  · rw [List.mem_range]
    have h1 : i * m + a + 1 ≤ n * m := by
      have : (i + 1) * m ≤ n * m := Nat.mul_le_mul_right m hi
      rw [Nat.add_mul] at this; omega
    have h2 : (i * m + a + 1) * k ≤ n * m * k := Nat.mul_le_mul_right k h1
    rw [Nat.add_mul] at h2
    omega
  · have hk : 0 < k := by omega
    have hm : 0 < m := by omega
    have d1 : ((i * m + a) * k + b) / k = i * m + a := by
      rw [Nat.mul_comm, Nat.mul_add_div hk, Nat.div_eq_of_lt hb]; omega
    have d2 : ((i * m + a) * k + b) % k = b := by
      rw [Nat.mul_comm, Nat.mul_add_mod, Nat.mod_eq_of_lt hb]
    have d3 : (i * m + a) / m = i := by
      rw [Nat.mul_comm, Nat.mul_add_div hm, Nat.div_eq_of_lt ha]; omega
    have d4 : (i * m + a) % m = a := by
      rw [Nat.mul_comm, Nat.mul_add_mod, Nat.mod_eq_of_lt ha]
    rw [d1, d2, d3, d4]
    simp [h]

/-- From a place, by rows one behind the other. -/
def stepRow (at' : Nat → Bool) (f : Nat → Nat → Bool) (b : Nat) : Bool := (List.range (b + 1)).any fun a => at' a && f a b

def rowF (l : List (Nat → Nat → Bool)) (a : Nat) : Nat → Bool := l.foldl stepRow fun b => decide (b = a)

/-- .. as a chain. -/
def Ch : List (Nat → Nat → Bool) → Nat → Nat → Prop
  | [], a, c => a = c
  | f :: l, a, c => ∃ b, a ≤ b ∧ f a b = true ∧ Ch l b c

theorem fold_ch : ∀ (l : List (Nat → Nat → Bool)) (at' : Nat → Bool) (c : Nat), l.foldl stepRow at' c = true ↔ ∃ a, at' a = true ∧ Ch l a c
  | [], at', c => by simp [Ch]
  | f :: l, at', c => by
    rw [List.foldl_cons, fold_ch l]
    constructor
    · rintro ⟨b, hb, hc⟩
      simp only [stepRow, List.any_eq_true, List.mem_range, Bool.and_eq_true] at hb
      obtain ⟨a, ha, h1, h2⟩ := hb
      exact ⟨a, h1, b, by omega, h2, hc⟩
    · rintro ⟨a, h1, b, hab, h2, hc⟩
      refine ⟨b, ?_, hc⟩
      simp only [stepRow, List.any_eq_true, List.mem_range, Bool.and_eq_true]
      exact ⟨a, by omega, h1, h2⟩

theorem rowF_ch {l : List (Nat → Nat → Bool)} {a c : Nat} : rowF l a c = true ↔ Ch l a c := by
  unfold rowF
  rw [fold_ch]
  constructor
  · rintro ⟨b, hb, hc⟩
    have : b = a := by simpa using hb
    subst this; exact hc
  · exact fun h => ⟨a, by simp, h⟩

end Go.Av
