/-
  Texts S0, S1, S2, S3, S4, S5 of this work, one behind the other. Conditions: none.
-/
import Derived.Test.YtiiogleijmcccaaBB
import Derived.Test.YtiiogleijmcccaaCC
import Derived.Test.YtiiogleijmcccaaD1

/-
  Tables of bools that lie in live blocks; and frozen. Conditions: none.
-/
namespace Go.Av
open Go.Proofs
set_option linter.unusedSimpArgs false
set_option linter.unusedVariables false

def e1 (k : Nat) (f : Nat → Bool) : List (List AV) := (List.range k).map fun j => [.bool (f j)]
def e2 (m k : Nat) (f : Nat → Nat → Bool) : List (List AV) := (List.range m).map fun i => [.ro (e1 k (f i))]
def e3 (n m k : Nat) (f : Nat → Nat → Nat → Bool) : List (List AV) := (List.range n).map fun i => [.ro (e2 m k (f i))]

theorem e1_len {k : Nat} {f : Nat → Bool} : (e1 k f).length = k := by simp [e1]
theorem e1_get {k j : Nat} {f : Nat → Bool} (h : j < k) : (e1 k f)[j]? = some [.bool (f j)] := by simp [e1, h]
theorem e2_get {m k i : Nat} {f : Nat → Nat → Bool} (h : i < m) : (e2 m k f)[i]? = some [.ro (e1 k (f i))] := by simp [e2, h]
theorem e3_get {n m k i : Nat} {f : Nat → Nat → Nat → Bool} (h : i < n) : (e3 n m k f)[i]? = some [.ro (e2 m k (f i))] := by simp [e3, h]

theorem e1_congr {k : Nat} {f g : Nat → Bool} (h : ∀ j, j < k → f j = g j) : e1 k f = e1 k g := by
  unfold e1
  exact List.map_congr_left fun j hj => by rw [h j (List.mem_range.1 hj)]

theorem e1_set {k j : Nat} {f : Nat → Bool} {b : Bool} : (e1 k f).set j [.bool b] = e1 k (fun x => if x = j then b else f x) := by
  refine List.ext_getElem? fun i => ?_
  rw [List.getElem?_set]
  by_cases hi : i < k
  · rw [e1_get hi, e1_get hi, e1_len]
    by_cases e : j = i
    · subst e; simp [hi]
    · simp [e, Ne.symm e]
  · rw [List.getElem?_eq_none (by rw [e1_len]; omega), List.getElem?_eq_none (by rw [e1_len]; omega)]
    split
    · rw [if_neg (by rw [e1_len]; omega)]
    · rfl

theorem e1_false {k : Nat} : List.replicate k [AV.bool false] = e1 k fun _ => false := by
  unfold e1
  rw [List.map_const']
  simp

/-- Slices into blocks, one behind the other. -/
def slL (k : Nat) (f : Nat → Nat) (m : Nat) : List (List AV) := (List.range m).map fun i => [.sl (f i) 0 k 1]

theorem slL_len {k m : Nat} {f : Nat → Nat} : (slL k f m).length = m := by simp [slL]
theorem slL_get {k m i : Nat} {f : Nat → Nat} (h : i < m) : (slL k f m)[i]? = some [.sl (f i) 0 k 1] := by simp [slL, h]
theorem slL_congr {k m : Nat} {f g : Nat → Nat} (h : ∀ i, i < m → f i = g i) : slL k f m = slL k g m := List.map_congr_left fun i hi => by rw [h i (List.mem_range.1 hi)]
theorem slL_snoc {k m x : Nat} {f : Nat → Nat} : slL k f m ++ [[.sl x 0 k 1]] = slL k (fun j => if j = m then x else f j) (m + 1) := by
  have : slL k (fun j => if j = m then x else f j) m = slL k f m := slL_congr fun i hi => by simp [show ¬ i = m by omega]
  rw [← this]
  unfold slL
  rw [List.range_succ, List.map_append]
  simp

/-- A row in a live block. -/
def T1 (h : Heap) (b k : Nat) (f : Nat → Bool) : Prop := h b = some (.cells (e1 k f))

/-- Rows, each in its block; all blocks lie from lo on, below hi. -/
structure T2 (h : Heap) (lo hi b : Nat) (leaf : Nat → Nat) (m k : Nat) (f : Nat → Nat → Bool) : Prop where
  lob : lo ≤ b
  hib : b < hi
  top : h b = some (.cells (slL k leaf m))
  at' : ∀ i, i < m → lo ≤ leaf i ∧ leaf i < hi ∧ leaf i ≠ b
  row : ∀ i, i < m → T1 h (leaf i) k (f i)
  inj : ∀ i j, i < m → j < m → leaf i = leaf j → i = j

/-- Tables, each in blocks of an own range. -/
structure T3 (h : Heap) (lo hi top : Nat) (cut mid : Nat → Nat) (leaf : Nat → Nat → Nat) (n m k : Nat) (f : Nat → Nat → Nat → Bool) : Prop where
  lob : lo ≤ cut 0
  mono : ∀ i, cut i ≤ cut (i + 1)
  hib : top < hi
  up : cut n ≤ top
  top : h top = some (.cells (slL m mid n))
  tab : ∀ i, i < n → T2 h (cut i) (cut (i + 1)) (mid i) (leaf i) m k (f i)

theorem T2.frame {h h' : Heap} {lo hi b : Nat} {leaf : Nat → Nat} {m k : Nat} {f : Nat → Nat → Bool} (t : T2 h lo hi b leaf m k f) (e : ∀ x, lo ≤ x → x < hi → h' x = h x) : T2 h' lo hi b leaf m k f :=
  ⟨t.lob, t.hib, (e _ t.lob t.hib).trans t.top, t.at', fun i hi => (e _ (t.at' i hi).1 (t.at' i hi).2.1).trans (t.row i hi), t.inj⟩

theorem mono_le {cut : Nat → Nat} (h : ∀ i, cut i ≤ cut (i + 1)) {i j : Nat} (hij : i ≤ j) : cut i ≤ cut j := by
  induction j with
  | zero => have : i = 0 := by omega
            subst this; exact Nat.le_refl _
  | succ j ih =>
    by_cases e : i = j + 1
    · subst e; exact Nat.le_refl _
    · exact Nat.le_trans (ih (by omega)) (h j)

theorem T3.frame {h h' : Heap} {lo hi top : Nat} {cut mid : Nat → Nat} {leaf : Nat → Nat → Nat} {n m k : Nat} {f : Nat → Nat → Nat → Bool} (t : T3 h lo hi top cut mid leaf n m k f) (e : ∀ x, lo ≤ x → x < hi → h' x = h x) : T3 h' lo hi top cut mid leaf n m k f := by
  have h1 : ∀ i, cut 0 ≤ cut i := fun i => mono_le t.mono (Nat.zero_le i)
  refine ⟨t.lob, t.mono, t.hib, t.up, (e _ (by have := h1 n; have := t.lob; have := t.up; omega) t.hib).trans t.top, fun i hi => (t.tab i hi).frame fun x hx hx' => e x (by have := h1 i; have := t.lob; omega) ?_⟩
  have : cut (i + 1) ≤ cut n := mono_le t.mono (by omega)
  have := t.up
  have := t.hib
  omega

/-- One place is written. -/
theorem T3.set {h : Heap} {lo hi top : Nat} {cut mid : Nat → Nat} {leaf : Nat → Nat → Nat} {n m k : Nat} {f : Nat → Nat → Nat → Bool} (t : T3 h lo hi top cut mid leaf n m k f) {i a b : Nat} {v : Bool} (hi' : i < n) (ha : a < m) :
    T3 (upd h (leaf i a) (some (.cells (e1 k fun x => if x = b then v else f i a x)))) lo hi top cut mid leaf n m k (fun i' a' b' => if i' = i ∧ a' = a ∧ b' = b then v else f i' a' b') := by
  have ti := t.tab i hi'
  have hl := ti.at' a ha
  have hup : cut (i + 1) ≤ top := Nat.le_trans (mono_le t.mono (by omega)) t.up
  refine ⟨t.lob, t.mono, t.hib, t.up, ?_, fun j hj => ?_⟩
  · rw [upd_app, if_neg (by omega)]; exact t.top
  · have tj := t.tab j hj
    by_cases e : j = i
    · subst e
      refine ⟨tj.lob, tj.hib, ?_, tj.at', fun x hx => ?_, tj.inj⟩
      · rw [upd_app, if_neg (Ne.symm hl.2.2)]; exact tj.top
      · unfold T1
        rw [upd_app]
        by_cases ex : x = a
        · subst ex
          rw [if_pos rfl]
          congr 2
          exact e1_congr fun y _ => by simp
        · rw [if_neg fun h => ex (tj.inj _ _ hx ha h)]
          have := tj.row x hx
          unfold T1 at this
          rw [this]
          congr 2
          exact e1_congr fun y _ => by simp [ex]
    · refine T2.frame (h := h) ?_ fun x hx hx' => ?_
      · have : (fun a' b' => if j = i ∧ a' = a ∧ b' = b then v else f j a' b') = f j := by funext a' b'; simp [e]
        rw [this]; exact tj
      · rw [upd_app, if_neg]
        intro ex
        rcases Nat.lt_or_gt_of_ne e with h1 | h1
        · have : cut (j + 1) ≤ cut i := mono_le t.mono (by omega)
          omega
        · have : cut (i + 1) ≤ cut j := mono_le t.mono (by omega)
          omega

theorem rfs_one {fr : Bool} {d : Nat} {h : Heap} {a a' : AV} (ha : rf fr (d + 1) h a = some a') : rfs fr (d + 2) h [a] = some [a'] := by
  unfold rfs
  simp [ha]

theorem mapM_map {α β γ : Type} {f : β → Option γ} {g : α → β} {r : α → γ} : ∀ l : List α, (∀ x ∈ l, f (g x) = some (r x)) → (l.map g).mapM f = some (l.map r)
  | [], _ => rfl
  | x :: l, h => by
    rw [List.map_cons, List.mapM_cons, h x (by simp), mapM_map l fun y hy => h y (by simp [hy])]
    rfl

theorem rfe_map {α : Type} {fr : Bool} {d : Nat} {h : Heap} {g r : α → List AV} {l : List α} (e : ∀ x ∈ l, rfs fr d h (g x) = some (r x)) : rfe fr (d + 1) h (l.map g) = some (l.map r) := by
  unfold rfe
  exact mapM_map l e

theorem rfe_e1 {fr : Bool} {d k : Nat} {h : Heap} {f : Nat → Bool} : rfe fr (d + 3) h (e1 k f) = some (e1 k f) :=
  rfe_map fun x _ => by simp [rfs, rf]

theorem rf_sla {fr : Bool} {d : Nat} {h : Heap} {b len sz : Nat} {es es' : List (List AV)} (hb : h b = some (.cells es)) (hl : len = es.length) (he : rfe fr d h es = some es') : rf fr (d + 1) h (.sl b 0 len sz) = some (.ro es') := by
  subst hl
  unfold rf
  have e : List.take es.length (List.drop 0 es) = es := by rw [List.drop_zero, List.take_of_length_le (Nat.le_refl _)]
  simp only [hb, e, he]
  simp

theorem T1.frz {fr : Bool} {d : Nat} {h : Heap} {b k : Nat} {f : Nat → Bool} (t : T1 h b k f) : rf fr (d + 4) h (.sl b 0 k 1) = some (.ro (e1 k f)) := rf_sla t e1_len.symm rfe_e1

theorem T2.frz {fr : Bool} {d : Nat} {h : Heap} {lo hi b : Nat} {leaf : Nat → Nat} {m k : Nat} {f : Nat → Nat → Bool} (t : T2 h lo hi b leaf m k f) : rf fr (d + 7) h (.sl b 0 m 1) = some (.ro (e2 m k f)) :=
  rf_sla t.top slL_len.symm (rfe_map fun i hi => rfs_one (t.row i (List.mem_range.1 hi)).frz)

theorem T3.frz {fr : Bool} {d : Nat} {h : Heap} {lo hi top : Nat} {cut mid : Nat → Nat} {leaf : Nat → Nat → Nat} {n m k : Nat} {f : Nat → Nat → Nat → Bool} (t : T3 h lo hi top cut mid leaf n m k f) : rf fr (d + 10) h (.sl top 0 n 1) = some (.ro (e3 n m k f)) :=
  rf_sla t.top slL_len.symm (rfe_map fun i hi => rfs_one (t.tab i (List.mem_range.1 hi)).frz)

/-! ### How many places are false -/
def falses (n m k : Nat) (f : Nat → Nat → Nat → Bool) : Nat := (List.range (n * m * k)).countP fun x => !f (x / k / m) (x / k % m) (x % k)

theorem countP_lt {α : Type} {p q : α → Bool} : ∀ {l : List α}, (∀ x ∈ l, q x = true → p x = true) → (∃ x ∈ l, p x = true ∧ q x = false) → l.countP q < l.countP p
  | [], _, ⟨x, hx, _⟩ => by cases hx
  | y :: l, h, ⟨x, hx, hp, hq⟩ => by
    have hle : l.countP q ≤ l.countP p := List.countP_mono_left fun x hx => h x (by simp [hx])
    rw [List.countP_cons, List.countP_cons]
    rcases List.mem_cons.1 hx with rfl | hx
    · simp [hp, hq]; omega
    · have := countP_lt (p := p) (q := q) (fun x hx => h x (by simp [hx])) ⟨x, hx, hp, hq⟩
      have := h y (by simp)
      cases hqy : q y <;> cases hpy : p y <;> simp_all <;> omega

theorem falses_set {n m k i a b : Nat} {f : Nat → Nat → Nat → Bool} (hi : i < n) (ha : a < m) (hb : b < k) (h : f i a b = false) : falses n m k (fun i' a' b' => if i' = i ∧ a' = a ∧ b' = b then true else f i' a' b') < falses n m k f := by
  unfold falses
  refine countP_lt (fun x _ hx => ?_) ⟨(i * m + a) * k + b, ?_, ?_⟩
  · simp only [Bool.not_eq_true'] at hx ⊢
    revert hx
    split
    · simp
    · exact id
  · rw [List.mem_range]
    have h1 : i * m + a + 1 ≤ n * m := by
      have : (i + 1) * m ≤ n * m := Nat.mul_le_mul_right m hi
      rw [Nat.add_mul] at this; omega
    have h2 : (i * m + a + 1) * k ≤ n * m * k := Nat.mul_le_mul_right k h1
    rw [Nat.add_mul] at h2
    omega
  · have hk : 0 < k := by omega
    have hm : 0 < m := by omega
    have d1 : ((i * m + a) * k + b) / k = i * m + a := by
      rw [Nat.mul_comm, Nat.mul_add_div hk, Nat.div_eq_of_lt hb]; omega
    have d2 : ((i * m + a) * k + b) % k = b := by
      rw [Nat.mul_comm, Nat.mul_add_mod, Nat.mod_eq_of_lt hb]
    have d3 : (i * m + a) / m = i := by
      rw [Nat.mul_comm, Nat.mul_add_div hm, Nat.div_eq_of_lt ha]; omega
    have d4 : (i * m + a) % m = a := by
      rw [Nat.mul_comm, Nat.mul_add_mod, Nat.mod_eq_of_lt ha]
    rw [d1, d2, d3, d4]
    simp [h]

/-- From a place, by rows one behind the other. -/
def stepRow (at' : Nat → Bool) (f : Nat → Nat → Bool) (b : Nat) : Bool := (List.range (b + 1)).any fun a => at' a && f a b

def rowF (l : List (Nat → Nat → Bool)) (a : Nat) : Nat → Bool := l.foldl stepRow fun b => decide (b = a)

/-- .. as a chain. -/
def Ch : List (Nat → Nat → Bool) → Nat → Nat → Prop
  | [], a, c => a = c
  | f :: l, a, c => ∃ b, a ≤ b ∧ f a b = true ∧ Ch l b c

theorem fold_ch : ∀ (l : List (Nat → Nat → Bool)) (at' : Nat → Bool) (c : Nat), l.foldl stepRow at' c = true ↔ ∃ a, at' a = true ∧ Ch l a c
  | [], at', c => by simp [Ch]
  | f :: l, at', c => by
    rw [List.foldl_cons, fold_ch l]
    constructor
    · rintro ⟨b, hb, hc⟩
      simp only [stepRow, List.any_eq_true, List.mem_range, Bool.and_eq_true] at hb
      obtain ⟨a, ha, h1, h2⟩ := hb
      exact ⟨a, h1, b, by omega, h2, hc⟩
    · rintro ⟨a, h1, b, hab, h2, hc⟩
      refine ⟨b, ?_, hc⟩
      simp only [stepRow, List.any_eq_true, List.mem_range, Bool.and_eq_true]
      exact ⟨a, by omega, h1, h2⟩

theorem rowF_ch {l : List (Nat → Nat → Bool)} {a c : Nat} : rowF l a c = true ↔ Ch l a c := by
  unfold rowF
  rw [fold_ch]
  constructor
  · rintro ⟨b, hb, hc⟩
    have : b = a := by simpa using hb
    subst this; exact hc
  · exact fun h => ⟨a, by simp, h⟩

end Go.Av

/-
  What comes of grammars, by definition: rows, tokens, empty tables. Conditions: none.
-/
namespace Go.Av
open Go.Proofs
set_option maxRecDepth 100000
set_option linter.unusedSimpArgs false
set_option linter.unusedVariables false

/-- What the rows from below a lead to. -/
def nxA (at' : Nat → Bool) (f : Nat → Nat → Bool) (a : Nat) (x : Nat) : Bool := (List.range a).any fun a' => decide (a' ≤ x) && (at' a' && f a' x)

/-- .. and from a itself, to places below bb. -/
def nxB (at' : Nat → Bool) (f : Nat → Nat → Bool) (a bb : Nat) (x : Nat) : Bool := nxA at' f a x || (at' a && (decide (a ≤ x) && (decide (x < bb) && f a x)))

theorem nxB_start {at' : Nat → Bool} {f : Nat → Nat → Bool} {a : Nat} : nxB at' f a a = nxA at' f a := by
  funext x
  unfold nxB
  by_cases h : a ≤ x
  · simp [show ¬ x < a by omega]
  · simp [h]

theorem nxB_hit {at' : Nat → Bool} {f : Nat → Nat → Bool} {a bb : Nat} (h1 : at' a = true) (h2 : f a bb = true) (h3 : a ≤ bb) : (fun x => if x = bb then true else nxB at' f a bb x) = nxB at' f a (bb + 1) := by
  funext x
  unfold nxB
  by_cases h : x = bb
  · subst h; simp [h1, h2, h3]
  · simp [h, show (x < bb + 1) = (x < bb) by apply propext; omega]

theorem nxB_miss {at' : Nat → Bool} {f : Nat → Nat → Bool} {a bb : Nat} (h2 : f a bb = false) : nxB at' f a bb = nxB at' f a (bb + 1) := by
  funext x
  unfold nxB
  by_cases h : x = bb
  · subst h; simp [h2]
  · simp [show (x < bb + 1) = (x < bb) by apply propext; omega]

theorem nxB_end {at' : Nat → Bool} {f : Nat → Nat → Bool} {a bb x : Nat} (h : at' a = false ∨ x < bb) : nxB at' f a bb x = nxA at' f (a + 1) x := by
  unfold nxB nxA
  rw [List.range_succ, List.any_append]
  congr 1
  rcases h with h | h
  · simp [h]
  · simp [h, Bool.and_left_comm]

theorem nxA_end {at' : Nat → Bool} {f : Nat → Nat → Bool} {Z x : Nat} (h : x < Z) : nxA at' f Z x = stepRow at' f x := by
  unfold nxA stepRow
  rw [Bool.eq_iff_iff]
  simp only [List.any_eq_true, List.mem_range, Bool.and_eq_true, decide_eq_true_eq]
  constructor
  · rintro ⟨a, h1, h2, h3⟩; exact ⟨a, by omega, h3⟩
  · rintro ⟨a, h1, h2⟩; exact ⟨a, by omega, by omega, h2⟩

theorem f91 (l : List (Nat → Nat → Bool)) (from' Z : Nat) (hl : l.length < 2 ^ 60) (hZ : Z < 2 ^ 40) (hf : from' ≤ Z) : PF pg Tq 91 [.ro (l.map fun f => [.ro (e2 (Z + 1) (Z + 1) f)]), .int .i64 from', .int .i64 Z] (.ro (e1 (Z + 1) (rowF l from'))) := by
  generalize hN : Z + 1 = N
  have fin : FH pg Tq 91 [.ro (l.map fun f => [.ro (e2 N N f)]), .int .i64 from', .int .i64 Z] h0 0 fun r h _ => ∃ b, r = .sl b 0 N 1 ∧ T1 h b N (rowF l from') := by
    have hw : IntKind.wrap .i64 ((Z : Int) + 1) = (Z : Int) + 1 := wrap64 (by omega) (by omega)
    have hn : ((Z : Int) + 1).toNat = N := by omega
    refine FH.of (N := 59) (rs := #[.tmp 6]) Try.func91 rfl rfl (of_decide_eq_true rfl) rfl (by decide) ?_
    refine W.rseq (k := 1) rfl fun K hK => ?_
    simp only [go_sem]
    refine hK _ _ _ ?_
    clear hK K
    refine W.rseq (k := 4) rfl fun K hK => ?_
    simp only [go_sem, e1_false, hw, hn, show (0 : Int) ≤ (Z : Int) + 1 by omega, show ((Z : Int) + 1) * 1 ≤ 140737488355328 by omega, show (0 : Nat) < 1 by omega]
    refine hK _ _ _ ?_
    clear hK K
    refine W.rseq (k := 4) rfl fun K hK => ?_
    simp only [go_sem, show (from' : Int) < (N : Int) by omega, e1_false, show (e1 N fun _ => false)[from']? = some [.bool false] from e1_get (by omega)]
    refine hK _ _ _ ?_
    clear hK K
    refine W.seq ?_
    refine W.rseq (k := 1) rfl fun K hK => ?_
    simp only [go_sem]
    refine hK _ _ _ ?_
    clear hK K
    refine W.block (W.while (fun m t h n => ∃ (i b : Nat) (at' : Nat → Bool), m = l.length - i ∧ i ≤ l.length ∧ b < n ∧ t 0 = .ro (l.map fun f => [.ro (e2 N N f)]) ∧ t 2 = .int .i64 Z ∧ t 7 = .sl b 0 N 1 ∧ t 8 = .int .i64 i ∧
        h b = some (.cells (e1 N at')) ∧ (l.drop i).foldl stepRow at' = rowF l from') l.length
      ⟨0, 3, fun b => decide (b = from'), by simp, by simp, by omega, rfl, rfl, rfl, rfl, ?_, rfl⟩ fun m t h n ⟨i, b, at', i1, i2, i3, i4, i5, i6, i7, i8, i9⟩ => ?_)
    · simp only [go_sem, e1_set]
      exact congrArg (fun x => some (AO.cells x)) (e1_congr fun j _ => by by_cases e : j = from' <;> simp [e])
    refine W.seq ?_
    refine W.rseq (k := 4) rfl fun K hK => ?_
    simp only [go_sem, i4, i7]
    refine hK _ _ _ ?_
    clear hK K
    refine W.cond rfl (fun hc => ?_) fun hc => ?_
    · refine W.skip ?_
      simp only [go_sem]
      have hi : i < l.length := by simp at hc; omega
      obtain ⟨f, hfi⟩ := get_some hi
      have hd : l.drop i = f :: l.drop (i + 1) := by
        rw [List.drop_eq_getElem_cons hi]
        congr 1
        exact (List.getElem_eq_iff hi).2 hfi
      rw [hd, List.foldl_cons] at i9
      refine W.seq (W.block ?_)
      refine W.rseq (k := 4) rfl fun K hK => ?_
      simp only [go_sem, e1_false, i5, hw, hn, show (0 : Int) ≤ (Z : Int) + 1 by omega, show ((Z : Int) + 1) * 1 ≤ 140737488355328 by omega, show (0 : Nat) < 1 by omega]
      refine hK _ _ _ ?_
      clear hK K
      obtain ⟨c, hc⟩ : ∃ c, c = n + 6 := ⟨_, rfl⟩
      refine W.seq ?_
      refine W.rseq (k := 1) rfl fun K hK => ?_
      simp only [go_sem]
      refine hK _ _ _ ?_
      clear hK K
      refine W.block (W.while (fun m t h n => ∃ a : Nat, m = Z + 1 - a ∧ a ≤ Z + 1 ∧ b < n ∧ c < n ∧ b ≠ c ∧ t 0 = .ro (l.map fun f => [.ro (e2 N N f)]) ∧ t 2 = .int .i64 Z ∧ t 7 = .sl b 0 N 1 ∧ t 8 = .int .i64 i ∧ t 9 = .sl c 0 N 1 ∧ t 10 = .int .i64 a ∧
          h b = some (.cells (e1 N at')) ∧ h c = some (.cells (e1 N (nxA at' f a)))) (Z + 1)
        ⟨0, by simp, by simp, by omega, by omega, by omega, i4, i5, i6, i7, by simp only [go_sem, hc], rfl, ?_, ?_⟩ fun m t h n ⟨a, j1, j2, j3, j4, j5, j6, j7, j8, j9, j10, j11, j12, j13⟩ => ?_)
      · simp only [go_sem, show ¬ b = n + 6 by omega, i8]
      · simp only [go_sem, hc]
        congr 2
      refine W.seq ?_
      refine W.rseq (k := 3) rfl fun K hK => ?_
      simp only [go_sem, j7, j11]
      refine hK _ _ _ ?_
      clear hK K
      refine W.cond rfl (fun hc2 => ?_) fun hc2 => ?_
      · refine W.skip ?_
        simp only [go_sem]
        have ha : a ≤ Z := by simp at hc2; omega
        refine W.seq (W.block ?_)
        refine W.rseq (k := 2) rfl fun K hK => ?_
        simp only [go_sem, j11]
        refine hK _ _ _ ?_
        clear hK K
        refine W.block (W.while (fun m t h n => ∃ bb : Nat, m = Z + 1 - bb ∧ a ≤ bb ∧ bb ≤ Z + 1 ∧ b < n ∧ c < n ∧ t 0 = .ro (l.map fun f => [.ro (e2 N N f)]) ∧ t 2 = .int .i64 Z ∧ t 7 = .sl b 0 N 1 ∧ t 8 = .int .i64 i ∧ t 9 = .sl c 0 N 1 ∧ t 10 = .int .i64 a ∧ t 11 = .int .i64 bb ∧
            h b = some (.cells (e1 N at')) ∧ h c = some (.cells (e1 N (nxB at' f a bb)))) (Z + 1 - a)
          ⟨a, rfl, by omega, by omega, by omega, by omega, j6, j7, j8, j9, j10, j11, rfl, j12, ?_⟩ fun m t h n ⟨bb, k1, k2, k3, k4, k5, k6, k7, k8, k9, k10, k11, k12, k13, k14⟩ => ?_)
        · rw [j13, nxB_start]
        refine W.seq ?_
        refine W.rseq (k := 9) rfl fun K hK => ?_
        by_cases c1 : bb ≤ Z
        · have c1' : decide ((bb : Int) ≤ (Z : Int)) = true := by simp [c1]
          simp only [go_sem, k7, k8, k11, k12, k13, c1', show (a : Int) < (N : Int) by omega, show (e1 N at')[a]? = some [.bool (at' a)] from e1_get (by omega)]
          cases hat : at' a
          · refine hK _ _ _ ?_
            clear hK K
            refine W.condF (by simp only [go_sem]) ?_
            refine W.exit ?_
            simp only [go_sem]
            refine W.region (k := 3) rfl ?_
            simp only [go_sem, k11]
            refine ⟨Z + 1 - (a + 1), by omega, a + 1, rfl, by omega, by omega, by omega, j5, k6, k7, k8, k9, k10, ?_, k13, ?_⟩
            · rw [wrap64 (by omega) (by omega)]; rfl
            · rw [k14, e1_congr fun x hx => nxB_end (.inl hat)]
          · refine hK _ _ _ ?_
            clear hK K
            refine W.condT (by simp only [go_sem]) ?_
            refine W.skip ?_
            simp only [go_sem]
            refine W.seq (W.block ?_)
            refine W.rseq (k := 10) rfl fun K hK => ?_
            simp only [go_sem, k6, k9, k11, k12, hfi, show (e2 N N f)[a]? = some [.ro (e1 N (f a))] from e2_get (by omega), show (e1 N (f a))[bb]? = some [.bool (f a bb)] from e1_get (by omega)]
            refine hK _ _ _ ?_
            clear hK K
            cases hfb : f a bb
            · refine W.condF (by simp only [go_sem]) ?_
              refine W.skip ?_
              simp only [go_sem]
              refine W.region (k := 3) rfl ?_
              simp only [go_sem, k12]
              refine ⟨Z + 1 - (bb + 1), by omega, bb + 1, rfl, by omega, by omega, by omega, by omega, k6, k7, k8, k9, k10, k11, ?_, k13, ?_⟩
              · rw [wrap64 (by omega) (by omega)]; rfl
              · rw [k14, nxB_miss hfb]
            · refine W.condT (by simp only [go_sem]) ?_
              refine W.region (k := 4) rfl ?_
              simp only [go_sem, k10, k12, k14, show (bb : Int) < (N : Int) by omega, show (e1 N (nxB at' f a bb))[bb]? = some [.bool (nxB at' f a bb bb)] from e1_get (by omega)]
              refine W.region (k := 3) rfl ?_
              simp only [go_sem, k12]
              refine ⟨Z + 1 - (bb + 1), by omega, bb + 1, rfl, by omega, by omega, by omega, by omega, k6, k7, k8, k9, k10, k11, ?_, ?_, ?_⟩
              · rw [wrap64 (by omega) (by omega)]; rfl
              · simp only [go_sem, show ¬ b = c from j5, k13]
              · simp only [go_sem, e1_set, nxB_hit hat hfb k2]
        · have c1' : decide ((bb : Int) ≤ (Z : Int)) = false := by simp; omega
          simp only [go_sem, k7, k12, c1']
          refine hK _ _ _ ?_
          clear hK K
          refine W.condF (by simp only [go_sem]) ?_
          refine W.exit ?_
          simp only [go_sem]
          refine W.region (k := 3) rfl ?_
          simp only [go_sem, k11]
          refine ⟨Z + 1 - (a + 1), by omega, a + 1, rfl, by omega, by omega, by omega, j5, k6, k7, k8, k9, k10, ?_, k13, ?_⟩
          · rw [wrap64 (by omega) (by omega)]; rfl
          · rw [k14, e1_congr fun x hx => nxB_end (.inr (show x < bb by omega))]
      · refine W.exit ?_
        simp only [go_sem]
        have ha : a = Z + 1 := by simp at hc2; omega
        subst ha
        refine W.region (k := 2) rfl ?_
        simp only [go_sem, j10]
        refine W.region (k := 3) rfl ?_
        simp only [go_sem, j9]
        refine ⟨l.length - (i + 1), by omega, i + 1, c, stepRow at' f, rfl, by omega, by omega, j6, j7, ?_, ?_, ?_, i9⟩
        · rfl
        · rw [wrap64 (by omega) (by omega)]; rfl
        · rw [j13, e1_congr (f := nxA at' f (Z + 1)) (g := stepRow at' f) fun x hx => nxA_end (by omega)]
    · refine W.exit ?_
      simp only [go_sem]
      have hi : i = l.length := by simp at hc; omega
      subst hi
      rw [List.drop_length, List.foldl_nil] at i9
      refine W.rseq (k := 2) rfl fun K hK => ?_
      simp only [go_sem, i6]
      refine hK _ _ _ ?_
      clear hK K
      refine W.ret ?_
      simp only [go_sem]
      exact ⟨b, rfl, by rw [← i9]; exact i8⟩
  obtain ⟨r, h', n', hb, b, rfl, ht⟩ := fin
  exact ⟨_, h', n', hb, 4, fun fr => ht.frz⟩

end Go.Av

/-
  What comes of grammars, by definition: tables that say nothing. Conditions: none.
-/
namespace Go.Av
open Go.Proofs
set_option maxRecDepth 100000
set_option linter.unusedSimpArgs false
set_option linter.unusedVariables false

/-- Rows being built: a of them, in blocks from c on, below n. -/
def Part (h : Heap) (c n : Nat) (v : AV) (leaf : Nat → Nat) (a N : Nat) : Prop :=
  (a = 0 ∧ v = .nils) ∨ ∃ b, v = .sl b 0 a 1 ∧ T2 h c n b leaf a N fun _ _ => false

/-- Tables being built. -/
def Parts (h : Heap) (c n : Nat) (v : AV) (cut mid : Nat → Nat) (leaf : Nat → Nat → Nat) (i N : Nat) : Prop :=
  c ≤ cut 0 ∧ (∀ j, cut j ≤ cut (j + 1)) ∧ cut i ≤ n ∧ (∀ j, j < i → T2 h (cut j) (cut (j + 1)) (mid j) (leaf j) N N fun _ _ => false) ∧
  ((i = 0 ∧ v = .nils) ∨ ∃ top, v = .sl top 0 i 1 ∧ cut i ≤ top ∧ top < n ∧ h top = some (.cells (slL N mid i)))

theorem T2.wide {h : Heap} {lo hi lo' hi' b : Nat} {leaf : Nat → Nat} {m k : Nat} {f : Nat → Nat → Bool} (t : T2 h lo hi b leaf m k f) (h1 : lo' ≤ lo) (h2 : hi ≤ hi') : T2 h lo' hi' b leaf m k f :=
  ⟨Nat.le_trans h1 t.lob, Nat.lt_of_lt_of_le t.hib h2, t.top, fun i hi => ⟨Nat.le_trans h1 (t.at' i hi).1, Nat.lt_of_lt_of_le (t.at' i hi).2.1 h2, (t.at' i hi).2.2⟩, t.row, t.inj⟩

theorem f89 (M Z : Nat) (hM : M < 2 ^ 40) (hM0 : 0 < M) (hZ : Z < 2 ^ 40) (hs : Heap) (ns : Nat) : FH pg Tq 89 [.int .i64 M, .int .i64 Z] hs ns fun r h' n' =>
    ∃ top cut mid leaf, r = .sl top 0 M 1 ∧ ns ≤ n' ∧ T3 h' ns n' top cut mid leaf M (Z + 1) (Z + 1) (fun _ _ _ => false) ∧ ∀ b, b < ns → h' b = hs b := by
  generalize hN : Z + 1 = N
  have hw : IntKind.wrap .i64 ((Z : Int) + 1) = (Z : Int) + 1 := wrap64 (by omega) (by omega)
  have hn : ((Z : Int) + 1).toNat = N := by omega
  refine FH.of (N := 32) (rs := #[.tmp 4]) Try.func89 rfl rfl (of_decide_eq_true rfl) rfl (by decide) ?_
  refine W.rseq (k := 1) rfl fun K hK => ?_
  simp only [go_sem]
  refine hK _ _ _ ?_
  clear hK K
  refine W.rseq (k := 2) rfl fun K hK => ?_
  simp only [go_sem]
  refine hK _ _ _ ?_
  clear hK K
  refine W.seq ?_
  refine W.rseq (k := 1) rfl fun K hK => ?_
  simp only [go_sem]
  refine hK _ _ _ ?_
  clear hK K
  refine W.block (W.while (fun m t h n => ∃ (i : Nat) (cut mid : Nat → Nat) (leaf : Nat → Nat → Nat), m = M - i ∧ i ≤ M ∧ ns ≤ n ∧ t 0 = .int .i64 M ∧ t 1 = .int .i64 Z ∧ t 6 = .int .i64 i ∧ Parts h ns n (t 5) cut mid leaf i N ∧ ∀ b, b < ns → h b = hs b) M
    ⟨0, fun _ => ns, fun _ => 0, fun _ _ => 0, by simp, by simp, by omega, rfl, rfl, rfl, ⟨by simp, by simp, show ns ≤ _ by omega, fun j hj => by omega, .inl ⟨rfl, rfl⟩⟩, fun b hb => by simp only [go_sem]⟩ fun m t h n ⟨i, cut, mid, leaf, i1, i2, i3, i4, i5, i6, i7, i8⟩ => ?_)
  refine W.seq ?_
  refine W.rseq (k := 3) rfl fun K hK => ?_
  simp only [go_sem, i4, i6]
  refine hK _ _ _ ?_
  clear hK K
  refine W.cond rfl (fun hc => ?_) fun hc => ?_
  · refine W.skip ?_
    simp only [go_sem]
    have hi : i < M := by simpa using hc
    refine W.seq (W.block ?_)
    refine W.rseq (k := 2) rfl fun K hK => ?_
    simp only [go_sem]
    refine hK _ _ _ ?_
    clear hK K
    refine W.seq ?_
    refine W.rseq (k := 1) rfl fun K hK => ?_
    simp only [go_sem]
    refine hK _ _ _ ?_
    clear hK K
    obtain ⟨p1, p2, p3, p4, p5⟩ := i7
    refine W.block (W.while (fun m t' h' n' => ∃ (a : Nat) (lf : Nat → Nat), m = N - a ∧ a ≤ N ∧ n ≤ n' ∧ t' 0 = .int .i64 M ∧ t' 1 = .int .i64 Z ∧ t' 6 = .int .i64 i ∧ t' 5 = t 5 ∧ t' 8 = .int .i64 a ∧ Part h' n n' (t' 7) lf a N ∧ ∀ b, b < n → h' b = h b) N
      ⟨0, fun _ => 0, by simp, by simp, by omega, i4, i5, i6, rfl, rfl, .inl ⟨rfl, rfl⟩, fun b hb => by simp only [go_sem]⟩ fun m t' h' n' ⟨a, lf, j1, j2, j3, j4, j5, j6, j7, j8, j9, j10⟩ => ?_)
    refine W.seq ?_
    refine W.rseq (k := 3) rfl fun K hK => ?_
    simp only [go_sem, j5, j8]
    refine hK _ _ _ ?_
    clear hK K
    refine W.cond rfl (fun hc2 => ?_) fun hc2 => ?_
    · refine W.skip ?_
      simp only [go_sem]
      have ha : a < N := by simp at hc2; omega
      refine W.seq (W.block ?_)
      rcases j9 with ⟨rfl, e7⟩ | ⟨b, e7, tb⟩
      · refine W.region (k := 7) rfl ?_
        simp only [go_sem, e7, j5, hw, hn, e1_false, show (0 : Int) ≤ (Z : Int) + 1 by omega, show ((Z : Int) + 1) * 1 ≤ 140737488355328 by omega, show (0 : Nat) < 1 by omega, show (0 : Nat) < 24 by omega]
        refine W.region (k := 3) rfl ?_
        simp only [go_sem, j8]
        refine ⟨N - 1, by omega, 1, fun _ => n' + 6, rfl, by omega, by omega, j4, j5, j6, j7, ?_, ?_, ?_⟩
        · rw [wrap64 (by omega) (by omega)]; rfl
        · refine .inr ⟨n' + 8, by simp only [go_sem], by omega, by omega, by simp only [go_sem]; rfl, fun i hi => ⟨by omega, by omega, by omega⟩, fun i hi => ?_, fun i j hi hj _ => by omega⟩
          unfold T1
          simp only [go_sem]
        · intro x hx
          simp only [go_sem, show ∀ k, ¬ (x = n' + k) from fun k => by omega]
          exact j10 x hx
      · refine W.region (k := 7) rfl ?_
        simp only [go_sem, e7, j5, hw, hn, e1_false, tb.top, slL_len, show (0 : Int) ≤ (Z : Int) + 1 by omega, show ((Z : Int) + 1) * 1 ≤ 140737488355328 by omega, show (0 : Nat) < 1 by omega, show (0 : Nat) < 24 by omega, show ¬ (b = n' + 6) by have := tb.hib; omega, show ¬ (b = n' + 7) by have := tb.hib; omega, show (a + 1) * 24 ≤ 140737488355328 by omega, show ¬ (a + 1 ≤ a) by omega]
        refine W.region (k := 3) rfl ?_
        simp only [go_sem, j8]
        have hb1 := tb.lob
        have hb2 := tb.hib
        refine ⟨N - (a + 1), by omega, a + 1, fun j => if j = a then n' + 6 else lf j, rfl, by omega, by omega, j4, j5, j6, j7, ?_, ?_, ?_⟩
        · rw [wrap64 (by omega) (by omega)]; rfl
        · refine .inr ⟨n' + 8, by simp only [go_sem], by omega, by omega, ?_, fun i hi => ?_, fun i hi => ?_, fun i j hi hj e => ?_⟩
          · rw [← slL_snoc]; simp [upd]
          · by_cases e : i = a
            · simp only [e, if_true]; exact ⟨by omega, by omega, by omega⟩
            · have := tb.at' i (by omega)
              simp only [e, if_false]; exact ⟨by omega, by omega, by omega⟩
          · unfold T1
            by_cases e : i = a
            · simp only [go_sem, e, show ∀ k, ¬ (n' + k = b) from fun k => by omega]
            · have := tb.at' i (by omega)
              have := tb.row i (by omega)
              unfold T1 at this
              simp only [go_sem, e, show ∀ k, ¬ (lf i = n' + k) from fun k => by omega, show ¬ lf i = b by omega, this]
          · have h1 := fun h => tb.at' i h
            have h2 := fun h => tb.at' j h
            by_cases e1 : i = a <;> by_cases e2 : j = a <;> simp only [e1, e2, if_true, if_false] at e ⊢
            · have := h2 (by omega); omega
            · have := h1 (by omega); omega
            · exact tb.inj i j (by omega) (by omega) e
        · intro x hx
          simp only [go_sem, show ∀ k, ¬ (x = n' + k) from fun k => by omega, show ¬ x = b by omega]
          exact j10 x hx
    · refine W.exit ?_
      simp only [go_sem]
      have ha : a = N := by simp at hc2; omega
      subst ha
      rcases j9 with ⟨e0, _⟩ | ⟨b, e7, tb⟩
      · omega
      have hb1 := tb.lob
      have hb2 := tb.hib
      have fr : ∀ j, j < i → T2 h' (cut j) (cut (j + 1)) (mid j) (leaf j) a a fun _ _ => false := fun j hj => (p4 j hj).frame fun x h1 h2 => j10 x (by have : cut (j + 1) ≤ cut i := mono_le p2 (by omega); omega)
      have old : ∀ (h'' : Heap) (bb n2 : Nat), n' ≤ bb → bb < n2 → (∀ x, x < n' → (∀ top, t 5 = .sl top 0 i 1 → x ≠ top) → h'' x = h' x) → h'' bb = some (.cells (slL a (fun j => if j = i then b else mid j) (i + 1))) →
          Parts h'' ns n2 (.sl bb 0 (i + 1) 1) (fun j => if j ≤ i then cut j else n') (fun j => if j = i then b else mid j) (fun j => if j = i then lf else leaf j) (i + 1) a := by
        intro h'' bb n2 q1 q2 q3 q4
        have hne : ∀ top, t 5 = .sl top 0 i 1 → (cut i ≤ top ∧ top < n) := by
          intro top e
          rcases p5 with ⟨_, e'⟩ | ⟨top', e', w1, w2, _⟩
          · rw [e'] at e; cases e
          · rw [e'] at e; cases e; exact ⟨w1, w2⟩
        refine ⟨by simpa using p1, fun j => ?_, by simp only [show ¬ i + 1 ≤ i by omega, if_false]; omega, fun j hj => ?_, .inr ⟨bb, rfl, by simp only [show ¬ i + 1 ≤ i by omega, if_false]; omega, q2, q4⟩⟩
        · by_cases e1 : j + 1 ≤ i
          · simp only [show j ≤ i by omega, e1, if_true]; exact p2 j
          · by_cases e2 : j ≤ i
            · have : j = i := by omega
              subst this
              simp only [Nat.le_refl, if_true, show ¬ j + 1 ≤ j by omega, if_false]; omega
            · simp [e1, e2]
        · by_cases e1 : j = i
          · subst e1
            simp only [Nat.le_refl, if_true, show ¬ j + 1 ≤ j by omega, if_false]
            refine T2.wide (tb.frame fun x h1 h2 => q3 x h2 fun top e => ?_) (by omega) (Nat.le_refl _)
            have := hne top e
            omega
          · simp only [show j ≤ i by omega, show j + 1 ≤ i by omega, e1, if_true, if_false]
            refine (fr j (by omega)).frame fun x h1 h2 => q3 x (by have : cut (j + 1) ≤ cut i := mono_le p2 (by omega); omega) fun top e => ?_
            have := hne top e
            have : cut (j + 1) ≤ cut i := mono_le p2 (by omega)
            omega
      rcases p5 with ⟨rfl, e5⟩ | ⟨top, e5, w1, w2, w3⟩
      · refine W.region (k := 5) rfl ?_
        simp only [go_sem, j7, e5, e7, show (0 : Nat) < 24 by omega]
        refine W.region (k := 3) rfl ?_
        simp only [go_sem, j6]
        refine ⟨M - 1, by omega, 1, _, _, _, rfl, by omega, by omega, j4, j5, ?_, old _ (n' + 6) _ (by omega) (by omega) (fun x hx _ => ?_) ?_, fun x hx => ?_⟩
        · rw [wrap64 (by omega) (by omega)]; rfl
        · simp only [go_sem, show ∀ k, ¬ (x = n' + k) from fun k => by omega]
        · simp only [go_sem]; rfl
        · simp only [go_sem, show ∀ k, ¬ (x = n' + k) from fun k => by omega]
          rw [j10 x (by omega), i8 x hx]
      · have ht : h' top = some (.cells (slL a mid i)) := (j10 top w2).trans w3
        refine W.region (k := 5) rfl ?_
        simp only [go_sem, j7, e5, e7, ht, slL_len, show (0 : Nat) < 24 by omega, show (i + 1) * 24 ≤ 140737488355328 by omega, show ¬ (i + 1 ≤ i) by omega, show ∀ k, ¬ (top = n' + k) from fun k => by omega]
        refine W.region (k := 3) rfl ?_
        simp only [go_sem, j6]
        refine ⟨M - (i + 1), by omega, i + 1, _, _, _, rfl, by omega, by omega, j4, j5, ?_, old _ (n' + 6) _ (by omega) (by omega) (fun x hx hne => ?_) ?_, fun x hx => ?_⟩
        · rw [wrap64 (by omega) (by omega)]; rfl
        · simp only [go_sem, show ∀ k, ¬ (x = n' + k) from fun k => by omega, hne top e5]
        · rw [← slL_snoc]; simp [upd]
        · have : ns ≤ cut 0 := p1
          have : cut 0 ≤ cut i := mono_le p2 (by omega)
          simp only [go_sem, show ∀ k, ¬ (x = n' + k) from fun k => by omega, show ¬ x = top by omega]
          rw [j10 x (by omega), i8 x hx]
  · refine W.exit ?_
    simp only [go_sem]
    have hi : i = M := by simp at hc; omega
    subst hi
    obtain ⟨p1, p2, p3, p4, p5⟩ := i7
    rcases p5 with ⟨rfl, e5⟩ | ⟨top, e5, w1, w2, w3⟩
    · omega
    refine W.rseq (k := 2) rfl fun K hK => ?_
    simp only [go_sem, e5]
    refine hK _ _ _ ?_
    clear hK K
    refine W.ret ?_
    simp only [go_sem]
    exact ⟨top, cut, mid, leaf, rfl, by omega, ⟨p1, p2, by omega, w1, w3, p4⟩, i8⟩

end Go.Av

/-
  What comes of grammars, by definition: tokens. Conditions: none.
-/
namespace Go.Av
open Go.Proofs
set_option maxRecDepth 100000
set_option linter.unusedSimpArgs false
set_option linter.unusedVariables false

def tokF (w : List Int) (t : Int) (a b : Nat) : Bool := decide (b = a + 1) && decide (w[a]? = some t)

theorem T2.set {h : Heap} {lo hi b : Nat} {leaf : Nat → Nat} {m k : Nat} {f : Nat → Nat → Bool} (t : T2 h lo hi b leaf m k f) {a j : Nat} {v : Bool} (ha : a < m) :
    T2 (upd h (leaf a) (some (.cells (e1 k fun x => if x = j then v else f a x)))) lo hi b leaf m k (fun a' b' => if a' = a ∧ b' = j then v else f a' b') := by
  refine ⟨t.lob, t.hib, ?_, t.at', fun i hi => ?_, t.inj⟩
  · rw [upd_app, if_neg (Ne.symm (t.at' a ha).2.2)]; exact t.top
  · unfold T1
    rw [upd_app]
    by_cases e : i = a
    · subst e
      rw [if_pos rfl]
      congr 2
      exact e1_congr fun x _ => by simp
    · rw [if_neg fun h => e (t.inj _ _ hi ha h)]
      have := t.row i hi
      unfold T1 at this
      rw [this]
      congr 2
      exact e1_congr fun x _ => by simp [e]

theorem T2.congr {h : Heap} {lo hi b : Nat} {leaf : Nat → Nat} {m k : Nat} {f g : Nat → Nat → Bool} (t : T2 h lo hi b leaf m k f) (e : ∀ i j, i < m → j < k → f i j = g i j) : T2 h lo hi b leaf m k g :=
  ⟨t.lob, t.hib, t.top, t.at', fun i hi => by
    have := t.row i hi
    unfold T1 at this ⊢
    rw [this, e1_congr fun j hj => e i j hi hj], t.inj⟩

theorem f90 (w : List Int) (t' : Int) (hw : w.length < 2 ^ 40) : PF pg Tq 90 [.ro (w.map eIn), .int .i64 t'] (.ro (e2 (w.length + 1) (w.length + 1) (tokF w t'))) := by
  generalize hN : w.length + 1 = N
  have fin : FH pg Tq 90 [.ro (w.map eIn), .int .i64 t'] h0 0 fun r h _ => ∃ b lo hi leaf, r = .sl b 0 N 1 ∧ T2 h lo hi b leaf N N (tokF w t') := by
    refine FH.of (N := 32) (rs := #[.tmp 4]) Try.func90 rfl rfl (of_decide_eq_true rfl) rfl (by decide) ?_
    refine W.rseq (k := 1) rfl fun K hK => ?_
    simp only [go_sem]
    refine hK _ _ _ ?_
    clear hK K
    refine W.rseq (k := 6) rfl fun K hK => ?_
    simp only [go_sem]
    refine VCall.heap (f89 1 w.length (by omega) (by omega) hw _ _) fun r h' x' ⟨top, cut, mid, leaf, er, hx, T, hfr⟩ => ?_
    subst er
    rw [hN] at T
    simp only [go_sem, T.top, slL_get (k := N) (f := mid) (show 0 < 1 by omega)]
    refine hK _ _ _ ?_
    clear hK K
    have T' := T.tab 0 (by omega)
    have hx2 := T.up
    have hx3 := T.hib
    refine W.seq ?_
    refine W.rseq (k := 1) rfl fun K hK => ?_
    simp only [go_sem]
    refine hK _ _ _ ?_
    clear hK K
    refine W.block (W.while (fun m t h n => ∃ (i : Nat) (F : Nat → Nat → Bool), m = w.length - i ∧ i ≤ w.length ∧ cut 1 < n ∧ t 0 = .ro (w.map eIn) ∧ t 1 = .int .i64 t' ∧ t 5 = .sl (mid 0) 0 N 1 ∧ t 6 = .int .i64 i ∧ T2 h (cut 0) (cut 1) (mid 0) (leaf 0) N N F ∧ ∀ a b, F a b = (decide (a < i) && tokF w t' a b)) w.length
      ⟨0, _, by simp, by simp, by omega, rfl, rfl, rfl, rfl, T', fun a b => by simp⟩ fun m t h n ⟨i, F, i1, i2, i3, i4, i5, i6, i7, i8, i9⟩ => ?_)
    refine W.seq ?_
    refine W.rseq (k := 4) rfl fun K hK => ?_
    simp only [go_sem, i4, i7]
    refine hK _ _ _ ?_
    clear hK K
    refine W.cond rfl (fun hc => ?_) fun hc => ?_
    · refine W.skip ?_
      simp only [go_sem]
      have hi : i < w.length := by simp at hc; omega
      obtain ⟨x, hx'⟩ := get_some hi
      refine W.seq (W.block ?_)
      have hrow := i8.row i (by omega)
      have hat := i8.at' i (by omega)
      unfold T1 at hrow
      have hwr : IntKind.wrap .i64 ((i : Int) + 1) = ((i + 1 : Nat) : Int) := by rw [wrap64 (by omega) (by omega)]; rfl
      have hN' : w.length + 1 = N := hN
      refine W.draw (k := 14) rfl ?_
      simp only [go_sem, i4, i5, i6, i7, i8.top, hx', hwr, hrow, slL_get (k := N) (f := leaf 0) (show i < N by omega), show (i : Int) < (N : Int) by omega, show ((i + 1 : Nat) : Int) < (N : Int) by omega, e1_get (k := N) (j := i + 1) (f := F i) (by omega), show mid 0 < n + 4 from Nat.lt_of_lt_of_le (Nat.lt_trans i8.hib i3) (Nat.le_add_right _ _), e1_set]
      refine ⟨by kernel_rfl, ?_⟩
      refine W.region (k := 3) rfl ?_
      simp only [go_sem, i7]
      refine ⟨w.length - (i + 1), by omega, i + 1, _, rfl, by omega, by omega, i4, i5, i6, ?_, i8.set (a := i) (j := i + 1) (v := x == t') (by omega), fun a b => ?_⟩
      · rw [hwr]
      · rw [i9]
        by_cases e : a = i
        · subst e
          unfold tokF
          rw [hx']
          by_cases e2 : b = a + 1
          · simp [e2, int_beq]
          · simp [e2]
        · by_cases e3 : a < i
          · simp [e, e3, show a < i + 1 by omega]
          · simp [e, e3, show ¬ a < i + 1 by omega]
    · refine W.exit ?_
      simp only [go_sem]
      have hi : i = w.length := by simp at hc; omega
      subst hi
      refine W.rseq (k := 2) rfl fun K hK => ?_
      simp only [go_sem, i6]
      refine hK _ _ _ ?_
      clear hK K
      refine W.ret ?_
      simp only [go_sem]
      exact ⟨mid 0, _, _, leaf 0, rfl, i8.congr fun a b ha hb => by
        rw [i9]
        by_cases h : a < w.length
        · simp [h]
        · simp [h, tokF, List.getElem?_eq_none (show w.length ≤ a by omega)]⟩
  obtain ⟨r, h', n', hb, b, lo, hi, leaf, rfl, ht⟩ := fin
  exact ⟨_, h', n', hb, 7, fun fr => ht.frz⟩

end Go.Av

/-
  What comes of grammars, by definition: which part of a word comes of each nonterminal. Conditions: none.
-/
namespace Go.Av
open Go.Proofs
set_option maxRecDepth 100000
set_option linter.unusedSimpArgs false
set_option linter.unusedVariables false

/-- A grammar whose nonterminals are there. -/
def Gr.Dom (g : Gr) : Prop := 1 ≤ g.nons ∧ g.nons < 2 ^ 30 ∧ ∀ p ∈ g.prods, ((0 ≤ p.left ∧ p.left < g.nons) ∧ p.right.length < 2 ^ 30) ∧ ∀ s ∈ p.right, s.non = true → 0 ≤ s.n ∧ s.n < g.nons

theorem right_dom {g : Gr} (h : right g = true) : g.Dom := by
  obtain ⟨h1, _, _, _, h5⟩ := right_in h
  refine ⟨h1.1, by omega, fun p hp => ⟨⟨(h5 p hp).1, by have := (h5 p hp).2.1; omega⟩, fun s hs hn => ?_⟩⟩
  have := (h5 p hp).2.2 s hs
  rw [if_pos hn] at this
  exact this

def symF (w : List Int) (F : Nat → Nat → Nat → Bool) (s : Sy) : Nat → Nat → Bool := if s.non then F s.n.toNat else tokF w s.n

/-- Does a part of a word come of a nonterminal? -/
noncomputable def spanF (g : Gr) (w : List Int) (i a b : Nat) : Bool := @decide (Der g w [⟨true, (i : Int)⟩] a b) (Classical.propDecidable _)

theorem spanF_iff {g : Gr} {w : List Int} {i a b : Nat} : spanF g w i a b = true ↔ Der g w [⟨true, (i : Int)⟩] a b := by
  unfold spanF
  exact @decide_eq_true_iff _ (Classical.propDecidable _)

/-- All that is said holds. -/
def Sd (g : Gr) (w : List Int) (M N : Nat) (F : Nat → Nat → Nat → Bool) : Prop := ∀ i a b, i < M → a < N → b < N → F i a b = true → Der g w [⟨true, (i : Int)⟩] a b

def closedAt (w : List Int) (F : Nat → Nat → Nat → Bool) (p : Pr) (a b : Nat) : Prop := Ch (p.right.map (symF w F)) a b → F p.left.toNat a b = true

theorem Ch.le : ∀ {l : List (Nat → Nat → Bool)} {a c : Nat}, Ch l a c → a ≤ c
  | [], a, c, h => by cases h; exact Nat.le_refl _
  | f :: l, a, c, ⟨b, h1, _, h3⟩ => Nat.le_trans h1 (Ch.le h3)

theorem ch_der {g : Gr} {w : List Int} {M N : Nat} {F : Nat → Nat → Nat → Bool} (hN : w.length + 1 = N) (hM : (M : Int) = g.nons) (hs : Sd g w M N F) : ∀ (l : List Sy) (a c : Nat), (∀ s ∈ l, s.non = true → 0 ≤ s.n ∧ s.n < g.nons) → c < N → Ch (l.map (symF w F)) a c → Der g w l a c
  | [], a, c, _, hc, h => by cases h; exact .nil (by omega)
  | s :: l, a, c, hd, hc, ⟨b, h1, h2, h3⟩ => by
    have hb := Ch.le h3
    have ih := ch_der hN hM hs l b c (fun s hs => hd s (by simp [hs])) hc h3
    obtain ⟨sn, n⟩ := s
    cases sn with
    | true =>
      have hr := hd ⟨true, n⟩ (by simp) rfl
      have h2' : F n.toNat a b = true := h2
      have := hs n.toNat a b (by simp only at hr; omega) (by omega) (by omega) h2'
      rw [show ((n.toNat : Nat) : Int) = n by simp only at hr; omega] at this
      exact this.append ih
    | false =>
      have h2' : tokF w n a b = true := h2
      unfold tokF at h2'
      simp only [Bool.and_eq_true, decide_eq_true_eq] at h2'
      obtain ⟨rfl, h4⟩ := h2'
      exact .term h4 ih

theorem der_ch {g : Gr} {w : List Int} {F : Nat → Nat → Nat → Bool} (hc : ∀ p ∈ g.prods, ∀ a b, a < w.length + 1 → b < w.length + 1 → closedAt w F p a b) {l : List Sy} {a c : Nat} (h : Der g w l a c) : Ch (l.map (symF w F)) a c := by
  induction h with
  | nil h => rfl
  | @term t l a c h hl ih => exact ⟨a + 1, by omega, by simp [symF, tokF, h], ih⟩
  | @non p l a b c hp hr hl ih1 ih2 =>
    have h1 := hr.le
    exact ⟨b, h1.1, hc p hp a b (by omega) (by omega) ih1, ih2⟩

theorem span_same {g : Gr} {w : List Int} {M N : Nat} {F : Nat → Nat → Nat → Bool} (hN : w.length + 1 = N) (hM : (M : Int) = g.nons) (hs : Sd g w M N F) (hc : ∀ p ∈ g.prods, ∀ a b, a < N → b < N → closedAt w F p a b) : ∀ i a b, i < M → a < N → b < N → F i a b = spanF g w i a b := by
  intro i a b hi ha hb
  rw [Bool.eq_iff_iff, spanF_iff]
  refine ⟨hs i a b hi ha hb, fun h => ?_⟩
  obtain ⟨b', h1, h2, h3⟩ := der_ch (fun p hp a b h1 h2 => hc p hp a b (by omega) (by omega)) h
  cases h3
  simpa [symF] using h2

theorem T3.congr {h : Heap} {lo hi top : Nat} {cut mid : Nat → Nat} {leaf : Nat → Nat → Nat} {n m k : Nat} {f g : Nat → Nat → Nat → Bool} (t : T3 h lo hi top cut mid leaf n m k f) (e : ∀ i a b, i < n → a < m → b < k → f i a b = g i a b) : T3 h lo hi top cut mid leaf n m k g :=
  ⟨t.lob, t.mono, t.hib, t.up, t.top, fun i hi => (t.tab i hi).congr fun a b ha hb => e i a b hi ha hb⟩

/-- What stands at all places of the walk. -/
structure SpC (g : Gr) (w : List Int) (lo hi top : Nat) (cut mid : Nat → Nat) (leaf : Nat → Nat → Nat) (M N : Nat) (t : Fr) (h : Heap) (n : Nat) (F : Nat → Nat → Nat → Bool) : Prop where
  e1 : t 1 = .ro (w.map eIn)
  e2 : t 2 = .ptr 0 0 0
  e5 : t 5 = .sl top 0 M 1
  m0 : h 0 = some (.cells [eGr g])
  T : T3 h lo hi top cut mid leaf M N N F
  hn : hi ≤ n

theorem SpC.next {g : Gr} {w : List Int} {lo hi top : Nat} {cut mid : Nat → Nat} {leaf : Nat → Nat → Nat} {M N : Nat} {t t' : Fr} {h h' : Heap} {n n' : Nat} {F : Nat → Nat → Nat → Bool} (c : SpC g w lo hi top cut mid leaf M N t h n F)
    (k1 : t' 1 = t 1) (k2 : t' 2 = t 2) (k5 : t' 5 = t 5) (kh : ∀ x, x < hi → h' x = h x) (kn : n ≤ n') : SpC g w lo hi top cut mid leaf M N t' h' n' F :=
  ⟨k1.trans c.e1, k2.trans c.e2, k5.trans c.e5, (kh 0 (by have := c.T.hib; omega)).trans c.m0, c.T.frame fun x _ hx => kh x hx, Nat.le_trans c.hn kn⟩

/-- A row's table: live, or frozen. -/
def symV (w : List Int) (mid : Nat → Nat) (N : Nat) (s : Sy) : List AV := [if s.non then .sl (mid s.n.toNat) 0 N 1 else .ro (e2 N N (tokF w s.n))]

theorem rfe_sym {g : Gr} {w : List Int} {lo hi top : Nat} {cut mid : Nat → Nat} {leaf : Nat → Nat → Nat} {M N : Nat} {h : Heap} {F : Nat → Nat → Nat → Bool} {d : Nat} (T : T3 h lo hi top cut mid leaf M N N F) (hM : (M : Int) = g.nons) {l : List Sy} (hd : ∀ s ∈ l, s.non = true → 0 ≤ s.n ∧ s.n < g.nons) :
    rfe true (d + 9) h (l.map (symV w mid N)) = some (l.map fun s => [.ro (e2 N N (symF w F s))]) :=
  rfe_map fun s hs => by
    obtain ⟨sn, n⟩ := s
    cases sn with
    | true =>
      have hr := hd ⟨true, n⟩ hs rfl
      simp only at hr
      exact rfs_one (T.tab n.toNat (by omega)).frz
    | false => exact rfs_one (by simp [rf, symF])

theorem sd_set {g : Gr} {w : List Int} {M N i a b : Nat} {F : Nat → Nat → Nat → Bool} (h : Sd g w M N F) (hd : Der g w [⟨true, (i : Int)⟩] a b) : Sd g w M N (fun i' a' b' => if i' = i ∧ a' = a ∧ b' = b then true else F i' a' b') := by
  intro i' a' b' h1 h2 h3 h4
  by_cases e : i' = i ∧ a' = a ∧ b' = b
  · obtain ⟨rfl, rfl, rfl⟩ := e; exact hd
  · simp only [e, if_false] at h4
    exact h i' a' b' h1 h2 h3 h4

/-- The rows of a production's symbols. -/
def RowL (w : List Int) (mid : Nat → Nat) (N x' : Nat) (r : List Sy) (h : Heap) (n : Nat) (v : AV) : Prop :=
  (r = [] ∧ v = .nils) ∨ ∃ bl, v = .sl bl 0 r.length 1 ∧ x' ≤ bl ∧ bl < n ∧ h bl = some (.cells (r.map (symV w mid N)))

theorem RowL.next {w : List Int} {mid : Nat → Nat} {N x' : Nat} {r : List Sy} {h h' : Heap} {n n' : Nat} {v v' : AV} (c : RowL w mid N x' r h n v) (hv : v' = v) (hh : ∀ x, x' ≤ x → x < n → h' x = h x) (hn : n ≤ n') : RowL w mid N x' r h' n' v' := by
  subst hv
  rcases c with c | ⟨bl, c1, c2, c3, c4⟩
  · exact .inl c
  · exact .inr ⟨bl, c1, c2, by omega, (hh bl c2 c3).trans c4⟩

theorem RowL.frz {g : Gr} {w : List Int} {lo hi top : Nat} {cut mid : Nat → Nat} {leaf : Nat → Nat → Nat} {M N x' n : Nat} {r : List Sy} {h : Heap} {F : Nat → Nat → Nat → Bool} {v : AV} {d : Nat} (c : RowL w mid N x' r h n v) (T : T3 h lo hi top cut mid leaf M N N F) (hM : (M : Int) = g.nons)
    (hd : ∀ s ∈ r, s.non = true → 0 ≤ s.n ∧ s.n < g.nons) : rf true (d + 10) h v = some (.ro ((r.map (symF w F)).map fun f => [.ro (e2 N N f)])) := by
  rw [List.map_map]
  rcases c with ⟨rfl, rfl⟩ | ⟨bl, rfl, c2, c3, c4⟩
  · simp [rf]
  · exact rf_sla c4 (by simp) (rfe_sym T hM hd)

theorem f36 (g : Gr) (hg : g.Small) (hdm : g.Dom) (w : List Int) (hw : w.length < 2 ^ 30) : PF pg Tq 36 [.agg (eGr g), .ro (w.map eIn)] (.ro (e3 g.nons.toNat (w.length + 1) (w.length + 1) (spanF g w))) := by
  generalize hN : w.length + 1 = N
  obtain ⟨hd1, hd2, hd3⟩ := hdm
  have hgl : g.prods.length < 2 ^ 60 := hg.1
  generalize hMM : g.nons.toNat = M
  have hM : (M : Int) = g.nons := by omega
  have fin : FH pg Tq 36 [.agg (eGr g), .ro (w.map eIn)] h0 0 fun r h _ => ∃ lo hi top cut mid leaf, r = .sl top 0 M 1 ∧ T3 h lo hi top cut mid leaf M N N (spanF g w) := by
    refine FH.of (N := 120) (rs := #[.tmp 4]) Try.func36 rfl rfl (of_decide_eq_true rfl) rfl (by decide) ?_
    refine W.rseq (k := 2) rfl fun K hK => ?_
    simp only [go_sem]
    refine hK _ _ _ ?_
    clear hK K
    refine W.rseq (k := 6) rfl fun K hK => ?_
    simp only [go_sem]
    rw [← hM]
    refine VCall.heap (f89 M w.length (by omega) (by omega) (by omega) _ _) fun r h' x' ⟨top, cut, mid, leaf, er, hx, T, hfr⟩ => ?_
    subst er
    rw [hN] at T
    simp only [go_sem]
    refine hK _ _ _ ?_
    clear hK K
    have m0 : h' 0 = some (.cells [eGr g]) := (hfr 0 (by omega)).trans (by simp only [go_sem, hM])
    refine W.seq ?_
    refine W.rseq (k := 1) rfl fun K hK => ?_
    simp only [go_sem]
    refine hK _ _ _ ?_
    clear hK K
    refine W.block (W.while (fun m t h n => ∃ (F : Nat → Nat → Nat → Bool) (more : Bool), m = 2 * falses M N N F + (if more then 1 else 0) ∧ SpC g w 8 x' top cut mid leaf M N t h n F ∧ t 6 = .bool more ∧ Sd g w M N F ∧ (more = false → ∀ p ∈ g.prods, ∀ a b, a < N → b < N → closedAt w F p a b)) _
      ⟨fun _ _ _ => false, true, rfl, ⟨rfl, rfl, rfl, m0, T, by omega⟩, rfl, fun _ _ _ _ _ _ h => (by cases h), fun h => (by cases h)⟩ fun m t h n ⟨F, more, i1, i2, i3, i4, i5⟩ => ?_)
    refine W.seq ?_
    refine W.rseq (k := 1) rfl fun K hK => ?_
    simp only [go_sem, i3]
    refine hK _ _ _ ?_
    clear hK K
    refine W.cond rfl (fun hmo => ?_) fun hmo => ?_
    · refine W.skip ?_
      simp only [go_sem]
      subst hmo
      refine W.block ?_
      refine W.rseq (k := 1) rfl fun K hK => ?_
      simp only [go_sem]
      refine hK _ _ _ ?_
      clear hK K
      refine W.rseq (k := 1) rfl fun K hK => ?_
      simp only [go_sem]
      refine hK _ _ _ ?_
      clear hK K
      obtain ⟨f0, hf0⟩ : ∃ f0, f0 = falses M N N F := ⟨_, rfl⟩
      refine W.block (W.while (fun m t h n => ∃ (i : Nat) (F : Nat → Nat → Nat → Bool) (more : Bool), m = g.prods.length - i ∧ i ≤ g.prods.length ∧ SpC g w 8 x' top cut mid leaf M N t h n F ∧ t 6 = .bool more ∧ t 7 = .int .i64 i ∧ Sd g w M N F ∧ falses M N N F ≤ f0 ∧ (more = true → falses M N N F < f0) ∧
          (more = false → ∀ j p, j < i → g.prods[j]? = some p → ∀ a b, a < N → b < N → closedAt w F p a b)) g.prods.length
        ⟨0, F, false, by simp, by simp, i2.next rfl rfl rfl (fun x hx => by simp only [go_sem]) (by omega), rfl, rfl, i4, by omega, fun h => (by cases h), fun _ j p h => (by omega)⟩ fun m2 t h n ⟨i, F, more, j1, j2, c, j6, j7, jS, jl, jm, jc⟩ => ?_)
      have i1' : m = 2 * f0 + 1 := by simpa [hf0] using i1
      clear i1 i2 i3 i4 i5
      refine W.seq ?_
      refine W.rseq (k := 5) rfl fun K hK => ?_
      simp only [go_sem, c.e2, c.m0, j7]
      refine hK _ _ _ ?_
      clear hK K
      refine W.cond rfl (fun hc => ?_) fun hc => ?_
      · refine W.skip ?_
        simp only [go_sem]
        have hi : i < g.prods.length := by simp at hc; omega
        obtain ⟨p, hp⟩ := get_some hi
        have hpm : p ∈ g.prods := List.mem_of_getElem? hp
        obtain ⟨⟨⟨hl0, hl1⟩, hpl⟩, hdr⟩ := hd3 p hpm
        refine W.seq (W.block ?_)
        refine W.rseq (k := 2) rfl fun K hK => ?_
        simp only [go_sem]
        refine hK _ _ _ ?_
        clear hK K
        refine W.seq ?_
        refine W.rseq (k := 1) rfl fun K hK => ?_
        simp only [go_sem]
        refine hK _ _ _ ?_
        clear hK K
        refine W.block (W.while (fun m t h n => ∃ (k : Nat), m = p.right.length - k ∧ k ≤ p.right.length ∧ SpC g w 8 x' top cut mid leaf M N t h n F ∧ t 6 = .bool more ∧ t 7 = .int .i64 i ∧ t 9 = .int .i64 k ∧
            ((k = 0 ∧ t 8 = .nils) ∨ ∃ bl, t 8 = .sl bl 0 k 1 ∧ x' ≤ bl ∧ bl < n ∧ h bl = some (.cells ((p.right.take k).map (symV w mid N))))) p.right.length
          ⟨0, by simp, by simp, c.next rfl rfl rfl (fun x hx => by simp only [go_sem]) (by omega), j6, j7, rfl, .inl ⟨rfl, rfl⟩⟩ fun m3 t h n ⟨k, k1, k2, ck, k6, k7, k9, k8⟩ => ?_)
        refine W.seq ?_
        refine W.rseq (k := 9) rfl fun K hK => ?_
        simp only [go_sem, ck.e2, ck.m0, k7, k9, hp]
        refine hK _ _ _ ?_
        clear hK K
        refine W.cond rfl (fun hc2 => ?_) fun hc2 => ?_
        · refine W.skip ?_
          simp only [go_sem]
          have hk : k < p.right.length := by simp at hc2; omega
          obtain ⟨s, hs⟩ := get_some hk
          have hsm : s ∈ p.right := List.mem_of_getElem? hs
          have htk : (p.right.take (k + 1)).map (symV w mid N) = (p.right.take k).map (symV w mid N) ++ [symV w mid N s] := by
            rw [List.take_add_one, hs, List.map_append]; rfl
          refine W.seq (W.block ?_)
          refine W.rseq (k := 11) rfl fun K hK => ?_
          simp only [go_sem, ck.e2, ck.m0, k7, k9, hp, hs]
          refine hK _ _ _ ?_
          clear hK K
          have hn' := ck.hn
          have htop := ck.T.hib
          obtain ⟨sn, sx⟩ := s
          refine W.rseq (k := 2) rfl fun K hK => ?_
          simp only [go_sem]
          refine hK _ _ _ ?_
          clear hK K
          cases sn with
          | true =>
            have hr := hdr _ hsm rfl
            simp only at hr
            obtain ⟨ν, rfl⟩ : ∃ ν : Nat, sx = ν := ⟨sx.toNat, by omega⟩
            have hsv : symV w mid N ⟨true, (ν : Int)⟩ = [.sl (mid ν) 0 N 1] := by simp [symV]
            refine W.condT (by simp only [go_sem]) ?_
            rcases k8 with ⟨rfl, k8⟩ | ⟨bl, k8, w1, w2, w3⟩
            · refine W.region (k := 9) rfl ?_
              simp only [go_sem, k8, ck.e5, ck.T.top, slL_get (k := N) (f := mid) (show ν < M by omega), show (ν : Int) < (M : Int) by omega, show ∀ k, ¬ (top = n + k) from fun k => by omega, show (0 : Nat) < 24 by omega]
              refine W.region (k := 3) rfl ?_
              simp only [go_sem, k9]
              refine ⟨p.right.length - 1, by omega, 1, rfl, by omega, ck.next rfl rfl rfl (fun x hx => by simp only [go_sem, show ∀ k, ¬ (x = n + k) from fun k => by omega]) (by omega), k6, k7, ?_, .inr ⟨_, rfl, by omega, by omega, ?_⟩⟩
              · rw [wrap64 (by omega) (by omega)]; rfl
              · rw [htk, hsv]; simp [upd]
            · refine W.region (k := 9) rfl ?_
              simp only [go_sem, k8, w3, ck.e5, ck.T.top, slL_get (k := N) (f := mid) (show ν < M by omega), show (ν : Int) < (M : Int) by omega, show ∀ k, ¬ (top = n + k) from fun k => by omega, show ∀ k, ¬ (bl = n + k) from fun k => by omega, show (0 : Nat) < 24 by omega, List.length_map, List.length_take, Nat.min_eq_left k2, show (k + 1) * 24 ≤ 140737488355328 by omega, show ¬ (k + 1 ≤ k) by omega]
              refine W.region (k := 3) rfl ?_
              simp only [go_sem, k9]
              refine ⟨p.right.length - (k + 1), by omega, k + 1, rfl, by omega, ck.next rfl rfl rfl (fun x hx => by simp only [go_sem, show ∀ k, ¬ (x = n + k) from fun k => by omega, show ¬ x = bl by omega]) (by omega), k6, k7, ?_, .inr ⟨_, rfl, by omega, by omega, ?_⟩⟩
              · rw [wrap64 (by omega) (by omega)]; rfl
              · rw [htk, hsv]; simp [upd]
          | false =>
            have hsv : symV w mid N ⟨false, sx⟩ = [.ro (e2 N N (tokF w sx))] := by simp [symV]
            have h90 : PF pg Tq 90 [.ro (w.map eIn), .int .i64 sx] (.ro (e2 N N (tokF w sx))) := by rw [← hN]; exact f90 w sx (by omega)
            refine W.condF (by simp only [go_sem]) ?_
            rcases k8 with ⟨rfl, k8⟩ | ⟨bl, k8, w1, w2, w3⟩
            · refine W.region (k := 8) rfl ?_
              simp only [go_sem, k8, ck.e1, show (0 : Nat) < 24 by omega]
              refine VCall.frz 6 h90 rfl ?_
              try simp only [go_sem, k8, ck.e1, show (0 : Nat) < 24 by omega]
              refine W.region (k := 3) rfl ?_
              simp only [go_sem, k9]
              refine ⟨p.right.length - 1, by omega, 1, rfl, by omega, ck.next rfl rfl rfl (fun x hx => by simp only [go_sem, show ∀ k, ¬ (x = n + k) from fun k => by omega]) (by omega), k6, k7, ?_, .inr ⟨_, rfl, by omega, by omega, ?_⟩⟩
              · rw [wrap64 (by omega) (by omega)]; rfl
              · rw [htk, hsv]; simp [upd]
            · refine W.region (k := 8) rfl ?_
              simp only [go_sem, k8, w3, ck.e1, show ∀ k, ¬ (bl = n + k) from fun k => by omega, show (0 : Nat) < 24 by omega, List.length_map, List.length_take, Nat.min_eq_left k2, show (k + 1) * 24 ≤ 140737488355328 by omega, show ¬ (k + 1 ≤ k) by omega]
              refine VCall.frz 6 h90 rfl ?_
              try simp only [go_sem, k8, w3, ck.e1, show ∀ k, ¬ (bl = n + k) from fun k => by omega, show (0 : Nat) < 24 by omega, List.length_map, List.length_take, Nat.min_eq_left k2, show (k + 1) * 24 ≤ 140737488355328 by omega, show ¬ (k + 1 ≤ k) by omega]
              refine W.region (k := 3) rfl ?_
              simp only [go_sem, k9]
              refine ⟨p.right.length - (k + 1), by omega, k + 1, rfl, by omega, ck.next rfl rfl rfl (fun x hx => by simp only [go_sem, show ∀ k, ¬ (x = n + k) from fun k => by omega, show ¬ x = bl by omega]) (by omega), k6, k7, ?_, .inr ⟨_, rfl, by omega, by omega, ?_⟩⟩
              · rw [wrap64 (by omega) (by omega)]; rfl
              · rw [htk, hsv]; simp [upd]
        · refine W.exit ?_
          simp only [go_sem]
          have hk : k = p.right.length := by simp at hc2; omega
          subst hk
          have hrow : RowL w mid N x' p.right h n (t 8) := by
            rcases k8 with ⟨e, k8⟩ | ⟨bl, k8, w1, w2, w3⟩
            · exact .inl ⟨List.length_eq_zero_iff.1 e, k8⟩
            · rw [List.take_length] at w3
              exact .inr ⟨bl, k8, w1, w2, w3⟩
          refine W.rseq (k := 1) rfl fun K hK => ?_
          simp only [go_sem]
          refine hK _ _ _ ?_
          clear hK K
          refine W.block (W.while (fun m t h n => ∃ (a : Nat) (F : Nat → Nat → Nat → Bool) (more : Bool), m = N - a ∧ a ≤ N ∧ SpC g w 8 x' top cut mid leaf M N t h n F ∧ t 6 = .bool more ∧ t 7 = .int .i64 i ∧ RowL w mid N x' p.right h n (t 8) ∧ t 11 = .int .i64 a ∧ Sd g w M N F ∧ falses M N N F ≤ f0 ∧ (more = true → falses M N N F < f0) ∧
              (more = false → (∀ j p, j < i → g.prods[j]? = some p → ∀ a b, a < N → b < N → closedAt w F p a b) ∧ ∀ a' b, a' < a → b < N → closedAt w F p a' b)) N
            ⟨0, F, more, by simp, by simp, ck.next rfl rfl rfl (fun x hx => by simp only [go_sem]) (by omega), k6, k7, hrow.next rfl (fun x _ _ => by simp only [go_sem]) (by omega), rfl, jS, jl, jm, fun e => ⟨jc e, fun a' b h => (by omega)⟩⟩ fun m4 t h n ⟨a, F, more, l1, l2, cl, l6, l7, l8, l11, lS, ll, lm, lc⟩ => ?_)
          clear hrow k8 ck k6 k7 k9 c j6 j7 jS jl jm jc
          refine W.seq ?_
          refine W.rseq (k := 4) rfl fun K hK => ?_
          simp only [go_sem, cl.e1, l11]
          refine hK _ _ _ ?_
          clear hK K
          refine W.cond rfl (fun hc3 => ?_) fun hc3 => ?_
          · refine W.skip ?_
            simp only [go_sem]
            have ha : a < N := by simp at hc3; omega
            refine W.seq (W.block ?_)
            have h91 : PF pg Tq 91 [.ro ((p.right.map (symF w F)).map fun f => [.ro (e2 N N f)]), .int .i64 a, .int .i64 w.length] (.ro (e1 N (rowF (p.right.map (symF w F)) a))) := by
              rw [← hN]; exact f91 _ a w.length (by rw [List.length_map]; omega) (by omega) (by omega)
            refine W.rseq (k := 6) rfl fun K hK => ?_
            simp only [go_sem, cl.e1, l11]
            refine VCall.frzq 20 (rfs_cons (l8.frz cl.T hM hdr) (rfs_cons rfl (rfs_cons rfl rfs_nil))) h91 ?_
            try simp only [go_sem, cl.e1, l11]
            refine hK _ _ _ ?_
            clear hK K
            refine W.rseq (k := 2) rfl fun K hK => ?_
            simp only [go_sem, l11]
            refine hK _ _ _ ?_
            clear hK K
            have cln := cl.hn
            refine W.block (W.while (fun m t h n => ∃ (b : Nat) (G : Nat → Nat → Nat → Bool) (more : Bool), m = N - b ∧ a ≤ b ∧ b ≤ N ∧ SpC g w 8 x' top cut mid leaf M N t h n G ∧ t 6 = .bool more ∧ t 7 = .int .i64 i ∧ RowL w mid N x' p.right h n (t 8) ∧ t 11 = .int .i64 a ∧ t 12 = .ro (e1 N (rowF (p.right.map (symF w F)) a)) ∧ t 13 = .int .i64 b ∧
                Sd g w M N G ∧ falses M N N G ≤ f0 ∧ (more = true → falses M N N G < f0) ∧
                (more = false → G = F ∧ (∀ j p, j < i → g.prods[j]? = some p → ∀ a b, a < N → b < N → closedAt w G p a b) ∧ (∀ a' b, a' < a → b < N → closedAt w G p a' b) ∧ ∀ b', b' < b → closedAt w G p a b')) (N - a)
              ⟨a, F, more, rfl, by omega, by omega, cl.next rfl rfl rfl (fun x hx => by simp only [go_sem]) (by omega), l6, l7, l8.next rfl (fun x _ _ => by simp only [go_sem]) (by omega), l11, rfl, rfl, lS, ll, lm,
                fun e => ⟨rfl, (lc e).1, (lc e).2, fun b' hb' hch => (by have := hch.le; omega)⟩⟩ fun m5 t h n ⟨b, G, mo, q1, q2, q3, cq, q6, q7, q8, q11, q12, q13, qS, ql, qm, qc⟩ => ?_)
            refine W.seq ?_
            refine W.rseq (k := 4) rfl fun K hK => ?_
            simp only [go_sem, cq.e1, q13]
            refine hK _ _ _ ?_
            clear hK K
            refine W.cond rfl (fun hc4 => ?_) fun hc4 => ?_
            · refine W.skip ?_
              simp only [go_sem]
              have hb : b < N := by simp at hc4; omega
              refine W.seq (W.block ?_)
              obtain ⟨ν, hν⟩ : ∃ ν : Nat, p.left = ν := ⟨p.left.toNat, by omega⟩
              have hνM : ν < M := by omega
              have tab := cq.T.tab ν hνM
              have hrow := tab.row a ha
              unfold T1 at hrow
              refine W.rseq (k := 22) rfl fun K hK => ?_
              cases hat : rowF (p.right.map (symF w F)) a b
              · simp only [go_sem, q12, q13, e1_get (f := rowF (p.right.map (symF w F)) a) hb, hat]
                refine hK _ _ _ ?_
                clear hK K
                refine W.condF (by simp only [go_sem]) ?_
                refine W.skip ?_
                simp only [go_sem]
                refine W.region (k := 3) rfl ?_
                simp only [go_sem, q13]
                refine ⟨N - (b + 1), by omega, b + 1, G, mo, rfl, by omega, by omega, cq.next rfl rfl rfl (fun x hx => by simp only [go_sem]) (by omega), q6, q7, q8.next rfl (fun x _ _ => by simp only [go_sem]) (by omega), q11, q12, ?_, qS, ql, qm, fun e => ?_⟩
                · rw [wrap64 (by omega) (by omega)]; rfl
                · obtain ⟨y1, y2, y3, y4⟩ := qc e
                  refine ⟨y1, y2, y3, fun b' hb' => ?_⟩
                  by_cases eb : b' = b
                  · subst eb
                    subst y1
                    intro hch
                    rw [rowF_ch.2 hch] at hat
                    cases hat
                  · exact y4 b' (by omega)
              · have hch := rowF_ch.1 hat
                simp only [go_sem, q12, q13, q11, q7, e1_get (f := rowF (p.right.map (symF w F)) a) hb, hat, cq.e2, cq.e5, cq.m0, hp, hν, cq.T.top, slL_get (k := N) (f := mid) hνM, show (ν : Int) < (M : Int) by omega, tab.top, slL_get (k := N) (f := leaf ν) ha, show (a : Int) < (N : Int) by omega, show (b : Int) < (N : Int) by omega, hrow, e1_get (f := G ν a) hb]
                cases hG : G ν a b
                · refine hK _ _ _ ?_
                  clear hK K
                  refine W.condT (by simp only [go_sem]) ?_
                  refine W.rseq (k := 15) rfl fun K hK => ?_
                  simp only [go_sem, q13, q11, q7, cq.e2, cq.e5, cq.m0, hp, hν, cq.T.top, slL_get (k := N) (f := mid) hνM, show (ν : Int) < (M : Int) by omega, tab.top, slL_get (k := N) (f := leaf ν) ha, show (a : Int) < (N : Int) by omega, show (b : Int) < (N : Int) by omega, hrow, e1_get (f := G ν a) hb]
                  refine hK _ _ _ ?_
                  clear hK K
                  refine W.region (k := 1) rfl ?_
                  simp only [go_sem]
                  refine W.region (k := 3) rfl ?_
                  simp only [go_sem, q13]
                  have hle := tab.at' a ha
                  have hlf : leaf ν a < x' := by
                    have : cut (ν + 1) ≤ cut M := mono_le cq.T.mono (by omega)
                    have := cq.T.up
                    have := cq.T.hib
                    omega
                  have hlf0 : 8 ≤ leaf ν a := by
                    have : cut 0 ≤ cut ν := mono_le cq.T.mono (by omega)
                    have := cq.T.lob
                    omega
                  have hder : Der g w [⟨true, (ν : Int)⟩] a b := by
                    rw [← hν]
                    exact .non hpm (ch_der hN hM lS p.right a b hdr hb hch) (.nil (by omega))
                  refine ⟨N - (b + 1), by omega, b + 1, _, true, rfl, by omega, by omega, ⟨cq.e1, cq.e2, cq.e5, ?_, by simpa only [upd_app, e1_set, upd] using cq.T.set (i := ν) (a := a) (b := b) (v := true) hνM ha, by have := cq.hn; omega⟩, rfl, q7, q8.next rfl (fun x hx _ => by simp only [go_sem, show ¬ x = leaf ν a by omega]) (by omega), q11, q12, ?_, sd_set qS hder, ?_, fun _ => ?_, fun e => (by cases e)⟩
                  · simp only [go_sem, show ¬ 0 = leaf ν a by omega, cq.m0]
                  · rw [wrap64 (by omega) (by omega)]; rfl
                  · have := falses_set hνM ha hb hG; omega
                  · have := falses_set hνM ha hb hG; omega
                · refine hK _ _ _ ?_
                  clear hK K
                  refine W.condF (by simp only [go_sem]) ?_
                  refine W.skip ?_
                  simp only [go_sem]
                  refine W.region (k := 3) rfl ?_
                  simp only [go_sem, q13]
                  refine ⟨N - (b + 1), by omega, b + 1, G, mo, rfl, by omega, by omega, cq.next rfl rfl rfl (fun x hx => by simp only [go_sem]) (by omega), q6, q7, q8.next rfl (fun x _ _ => by simp only [go_sem]) (by omega), q11, q12, ?_, qS, ql, qm, fun e => ?_⟩
                  · rw [wrap64 (by omega) (by omega)]; rfl
                  · obtain ⟨y1, y2, y3, y4⟩ := qc e
                    refine ⟨y1, y2, y3, fun b' hb' => ?_⟩
                    by_cases eb : b' = b
                    · subst eb
                      intro _
                      rw [hν]; exact hG
                    · exact y4 b' (by omega)
            · refine W.exit ?_
              simp only [go_sem]
              have hb : b = N := by simp at hc4; omega
              subst hb
              refine W.region (k := 3) rfl ?_
              simp only [go_sem, q11]
              refine ⟨b - (a + 1), by omega, a + 1, G, mo, rfl, by omega, cq.next rfl rfl rfl (fun x hx => by simp only [go_sem]) (by omega), q6, q7, q8.next rfl (fun x _ _ => by simp only [go_sem]) (by omega), ?_, qS, ql, qm, fun e => ?_⟩
              · rw [wrap64 (by omega) (by omega)]; rfl
              · obtain ⟨y1, y2, y3, y4⟩ := qc e
                refine ⟨y2, fun a' b' h1 h2 => ?_⟩
                by_cases ea : a' = a
                · subst ea; exact y4 b' h2
                · exact y3 a' b' (by omega) h2
          · refine W.exit ?_
            simp only [go_sem]
            have ha : a = N := by simp at hc3; omega
            subst ha
            refine W.region (k := 3) rfl ?_
            simp only [go_sem, l7]
            refine ⟨g.prods.length - (i + 1), by omega, i + 1, F, more, rfl, by omega, cl.next rfl rfl rfl (fun x hx => by simp only [go_sem]) (by omega), l6, ?_, lS, ll, lm, fun e j q hj hq => ?_⟩
            · rw [wrap64 (by omega) (by omega)]; rfl
            · obtain ⟨y1, y2⟩ := lc e
              by_cases ej : j = i
              · subst ej
                rw [hp] at hq; cases hq
                exact fun a' b' h1 h2 => y2 a' b' h1 h2
              · exact y1 j q (by omega) hq
      · refine W.exit ?_
        simp only [go_sem]
        have hi : i = g.prods.length := by simp at hc; omega
        subst hi
        refine ⟨2 * falses M N N F + (if more then 1 else 0), ?_, F, more, rfl, c.next rfl rfl rfl (fun x hx => rfl) (by omega), j6, jS, fun e q hq a b ha hb => ?_⟩
        · cases more with
          | true => have := jm rfl; simp; omega
          | false => simp; omega
        · obtain ⟨j, hj⟩ := List.mem_iff_getElem?.1 hq
          exact jc e j q (List.getElem?_eq_some_iff.1 hj).1 hj a b ha hb
    · refine W.exit ?_
      simp only [go_sem]
      refine W.rseq (k := 2) rfl fun K hK => ?_
      simp only [go_sem, i2.e5]
      refine hK _ _ _ ?_
      clear hK K
      refine W.ret ?_
      simp only [go_sem]
      have hs := span_same hN hM i4 (i5 hmo)
      exact ⟨8, x', top, cut, mid, leaf, rfl, i2.T.congr hs⟩
  obtain ⟨r, h', n', hb, lo, hi, top, cut, mid, leaf, rfl, ht⟩ := fin
  exact ⟨_, h', n', hb, 10, fun fr => ht.frz⟩

end Go.Av

/-
  Rows of numbers in live blocks. Conditions: none.
-/
namespace Go.Av
open Go.Proofs
set_option maxRecDepth 100000
set_option linter.unusedSimpArgs false
set_option linter.unusedVariables false

/-- Numbers in a live block from lo on; or none. -/
def IntL (h : Heap) (lo n : Nat) (v : AV) (l : List Int) : Prop := (l = [] ∧ v = .nils) ∨ ∃ b, v = .sl b 0 l.length 1 ∧ lo ≤ b ∧ b < n ∧ h b = some (.cells (l.map eIn))

theorem IntL.next {h h' : Heap} {lo n n' : Nat} {v v' : AV} {l : List Int} (c : IntL h lo n v l) (hv : v' = v) (hh : ∀ x, lo ≤ x → x < n → h' x = h x) (hn : n ≤ n') : IntL h' lo n' v' l := by
  subst hv
  rcases c with c | ⟨b, c1, c2, c3, c4⟩
  · exact .inl c
  · exact .inr ⟨b, c1, c2, by omega, (hh b c2 c3).trans c4⟩

theorem rfe_in {fr : Bool} {d : Nat} {h : Heap} {l : List Int} : rfe fr (d + 3) h (l.map eIn) = some (l.map eIn) := rfe_map fun x _ => by simp [rfs, rf, eIn]

theorem IntL.frz {fr : Bool} {h : Heap} {lo n d : Nat} {v : AV} {l : List Int} (c : IntL h lo n v l) : rf fr (d + 4) h v = some (.ro (l.map eIn)) := by
  rcases c with ⟨rfl, rfl⟩ | ⟨b, rfl, _, _, c⟩
  · simp [rf]
  · exact rf_sla c (by simp) rfe_in

end Go.Av
