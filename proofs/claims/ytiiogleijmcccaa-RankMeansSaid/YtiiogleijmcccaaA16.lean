/-
  A region that draws its order: any order comes to what the text's order comes to. Conditions: none.
-/
import Derived.Test.YtiiogleijmcccaaA15
namespace Go.Av

inductive Anc (ops : Array Oper) : Nat → Nat → Prop where
  | base {i j : Nat} {o : Oper} (ho : ops[j]? = some o) (h : i ∈ preds o) : Anc ops i j
  | step {i p j : Nat} {o : Oper} (ho : ops[j]? = some o) (h : p ∈ preds o) (k : Anc ops i p) : Anc ops i j

theorem ancOf_bit (acc : List Nat) (i : Nat) : ∀ (ps : List Nat) (s : Nat), (ps.foldl (fun s p => s ||| 2 ^ p ||| acc.getD p 0) s).testBit i = true → s.testBit i = true ∨ ∃ p ∈ ps, i = p ∨ (acc.getD p 0).testBit i = true
  | [], s, h => .inl h
  | p :: ps, s, h => by
    rcases ancOf_bit acc i ps _ h with h1 | ⟨q, hq, h1⟩
    · simp only [Nat.testBit_or, Bool.or_eq_true, Nat.testBit_two_pow, decide_eq_true_eq] at h1
      rcases h1 with (h1 | h1) | h1
      · exact .inl h1
      · exact .inr ⟨p, by simp, .inl h1.symm⟩
      · exact .inr ⟨p, by simp, .inr h1⟩
    · exact .inr ⟨q, by simp [hq], h1⟩

theorem ancL_bit (ops : Array Oper) : ∀ (l pre : List Oper) (acc : List Nat), ops.toList = pre ++ l → acc.length = pre.length → (∀ j i, (acc.getD j 0).testBit i = true → Anc ops i j) →
    ∀ j i, ((ancL l acc).getD j 0).testBit i = true → Anc ops i j
  | [], pre, acc, _, _, h => h
  | o :: l, pre, acc, ho, hl, h => by
    refine ancL_bit ops l (pre ++ [o]) (acc ++ [ancOf acc o]) (by simp [ho]) (by simp [hl]) fun j i hb => ?_
    by_cases hj : j < acc.length
    · rw [List.getD_eq_getElem?_getD, List.getElem?_append_left hj, ← List.getD_eq_getElem?_getD] at hb
      exact h j i hb
    · by_cases hj2 : j = acc.length
      · subst hj2
        have e : (acc ++ [ancOf acc o]).getD acc.length 0 = ancOf acc o := by simp
        rw [e] at hb
        have hop : ops[acc.length]? = some o := by
          rw [← Array.getElem?_toList, ho, hl, List.getElem?_append_right (Nat.le_refl _)]; simp
        rcases ancOf_bit acc i (preds o) 0 hb with h1 | ⟨p, hp, h1⟩
        · simp at h1
        · rcases h1 with rfl | h1
          · exact .base hop hp
          · exact .step hop hp (h p i h1)
      · have hz : (acc ++ [ancOf acc o]).getD j 0 = 0 := by
          rw [List.getD_eq_getElem?_getD, List.getElem?_eq_none (by simp; omega)]; rfl
        rw [hz] at hb; simp at hb

theorem drawOK_spec {ops : Array Oper} {cs : List Cls} (h : drawOK ops cs = true) : (∀ (j : Nat) (oj : Oper), ops[j]? = some oj → ∀ p ∈ preds oj, p < j) ∧
    ∀ (i j : Nat) (oi oj : Oper), ops[i]? = some oi → ops[j]? = some oj → i < j → Anc ops i j ∨ (oi.apart ops oj = true ∧ conflict (cs.getD i .W) (cs.getD j .W) = false) := by
  unfold drawOK at h
  simp only [Bool.and_eq_true, List.all_eq_true, List.mem_range, Bool.or_eq_true, Bool.not_eq_true', decide_eq_true_eq] at h
  obtain ⟨_, h⟩ := h
  have lt : ∀ (j : Nat) (oj : Oper), ops[j]? = some oj → j < ops.toList.length ∧ ops.toList[j]? = some oj := fun j oj hj => by
    have := (Array.getElem?_eq_some_iff.1 hj).1
    exact ⟨by simpa using this, by rw [Array.getElem?_toList]; exact hj⟩
  refine ⟨fun j oj hj p hp => ?_, fun i j oi oj hi hj hij => ?_⟩
  · obtain ⟨h1, h2⟩ := lt j oj hj
    have := h j h1
    rw [h2] at this
    simp only [Bool.and_eq_true, List.all_eq_true, decide_eq_true_eq] at this
    exact this.1 p hp
  · obtain ⟨h1, h2⟩ := lt j oj hj
    obtain ⟨h3, h4⟩ := lt i oi hi
    have := h j h1
    rw [h2] at this
    simp only [Bool.and_eq_true, List.all_eq_true, List.mem_range] at this
    have := this.2 i hij
    rw [h4] at this
    simp only [Bool.or_eq_true, Bool.and_eq_true, Bool.not_eq_true'] at this
    rcases this with h5 | h5
    · exact .inl (ancL_bit ops ops.toList [] [] (by simp) rfl (fun j i h => by simp at h) j i h5)
    · exact .inr h5

theorem conflict_comm (c d : Cls) : conflict c d = conflict d c := by cases c <;> cases d <;> rfl

/-- The run in the text's order, written down. -/
structure Rec (P : Program) (N : Nat) (ops : Array Oper) (n0 n : Nat) (σs : Nat → OS) (c : Nat → Cls) (o : Nat → Oper) (v : Nat → AV) (u : Nat → Upd) : Prop where
  op : ∀ i, i < n → OpS1 P N ops n0 i (σs i) (c i) (σs (i + 1)) (o i) (v i) (u i)
  x0 : (σs 0).x = n0 + n
  fresh0 : ∀ b, n0 ≤ b → (σs 0).h b = none
  size : ops.size = n
  preds : ∀ i, i < n → ∀ p ∈ Av.preds (o i), p < i
  indep : ∀ i j, i < j → j < n → Anc ops i j ∨ ((o i).apart ops (o j) = true ∧ conflict (c i) (c j) = false)

noncomputable def gD (σs : Nat → OS) (D : Nat → Bool) : Nat → Heap
  | 0 => (σs 0).h
  | k + 1 => open Classical in fun b => if D k = true ∧ (σs (k + 1)).h b ≠ (σs k).h b then (σs (k + 1)).h b else gD σs D k b

def tD (σs : Nat → OS) (o : Nat → Oper) (D : Nat → Bool) : Nat → Fr
  | 0 => (σs 0).t
  | k + 1 => fun x => if D k = true ∧ (o k).dst = some x then (σs (k + 1)).t x else tD σs o D k x

def xD (σs : Nat → OS) (c : Nat → Cls) (D : Nat → Bool) : Nat → Nat
  | 0 => (σs 0).x
  | k + 1 => if D k = true ∧ c k = .W then (σs (k + 1)).x else xD σs c D k

section
variable {P : Program} {N : Nat} {ops : Array Oper} {n0 n : Nat} {σs : Nat → OS} {c : Nat → Cls} {o : Nat → Oper} {v : Nat → AV} {u : Nat → Upd} {D D' : Nat → Bool}

theorem gD_eq1 (b : Nat) : ∀ k, (∀ j, j < k → (σs (j + 1)).h b ≠ (σs j).h b → D j = true) → gD σs D k b = (σs k).h b
  | 0, _ => rfl
  | k + 1, h => by
    simp only [gD]
    split
    · rfl
    · rename_i hn
      by_cases hm : (σs (k + 1)).h b = (σs k).h b
      · rw [hm]; exact gD_eq1 b k fun j hj => h j (by omega)
      · exact absurd ⟨h k (by omega) hm, hm⟩ hn

theorem gD_eq2 (b i : Nat) : ∀ k, i ≤ k → (∀ j, i ≤ j → j < k → D j = true → (σs (j + 1)).h b = (σs j).h b) → gD σs D k b = gD σs D i b
  | 0, hi, _ => by have : i = 0 := by omega
                   subst this; rfl
  | k + 1, hi, h => by
    by_cases he : i = k + 1
    · subst he; rfl
    · simp only [gD]
      rw [if_neg fun hh => hh.2 (h k (by omega) (by omega) hh.1)]
      exact gD_eq2 b i k (by omega) fun j h1 h2 => h j h1 (by omega)

theorem tD_eq1 (H : Rec P N ops n0 n σs c o v u) (x : Nat) : ∀ k, k ≤ n → (∀ j, j < k → (o j).dst = some x → D j = true) → tD σs o D k x = (σs k).t x
  | 0, _, _ => rfl
  | k + 1, hk, h => by
    simp only [tD]
    split
    · rfl
    · rename_i hn
      have hd : (o k).dst ≠ some x := fun e => hn ⟨h k (by omega) e, e⟩
      rw [tD_eq1 H x k (by omega) fun j hj => h j (by omega), (H.op k (by omega)).t]
      cases hdd : (o k).dst with
      | none => rfl
      | some d => simp only [put]; rw [if_neg fun e => hd (by rw [hdd, e])]

theorem tD_eq2 (x i : Nat) : ∀ k, i ≤ k → (∀ j, i ≤ j → j < k → D j = true → (o j).dst ≠ some x) → tD σs o D k x = tD σs o D i x
  | 0, hi, _ => by have : i = 0 := by omega
                   subst this; rfl
  | k + 1, hi, h => by
    by_cases he : i = k + 1
    · subst he; rfl
    · simp only [tD]
      rw [if_neg fun hh => h k (by omega) (by omega) hh.1 hh.2]
      exact tD_eq2 x i k (by omega) fun j h1 h2 => h j h1 (by omega)

theorem xD_eq1 (H : Rec P N ops n0 n σs c o v u) : ∀ k, k ≤ n → (∀ j, j < k → c j = .W → D j = true) → xD σs c D k = (σs k).x
  | 0, _, _ => rfl
  | k + 1, hk, h => by
    simp only [xD]
    split
    · rfl
    · rename_i hn
      have hd : c k ≠ .W := fun e => hn ⟨h k (by omega) e, e⟩
      rw [xD_eq1 H k (by omega) fun j hj => h j (by omega), ((H.op k (by omega)).quiet hd).1]

theorem xD_eq2 (i : Nat) : ∀ k, i ≤ k → (∀ j, i ≤ j → j < k → D j = true → c j ≠ .W) → xD σs c D k = xD σs c D i
  | 0, hi, _ => by have : i = 0 := by omega
                   subst this; rfl
  | k + 1, hi, h => by
    by_cases he : i = k + 1
    · subst he; rfl
    · simp only [xD]
      rw [if_neg fun hh => h k (by omega) (by omega) hh.1 hh.2]
      exact xD_eq2 i k (by omega) fun j h1 h2 => h j h1 (by omega)

theorem Rec.xmono (H : Rec P N ops n0 n σs c o v u) : ∀ i, i ≤ n → n0 + n ≤ (σs i).x
  | 0, _ => by rw [H.x0]; exact Nat.le_refl _
  | i + 1, hi => Nat.le_trans (H.xmono i (by omega)) (H.op i (by omega)).x

theorem xD_ge (H : Rec P N ops n0 n σs c o v u) : ∀ k, k ≤ n → n0 + n ≤ xD σs c D k
  | 0, _ => by simp only [xD]; rw [H.x0]; exact Nat.le_refl _
  | k + 1, hk => by
    simp only [xD]
    split
    · exact H.xmono _ hk
    · exact xD_ge H k (by omega)

theorem Rec.fresh (H : Rec P N ops n0 n σs c o v u) : ∀ i, i ≤ n → ∀ b, (σs i).x ≤ b → (σs i).h b = none
  | 0, _ => fun b hb => H.fresh0 b (by rw [H.x0] at hb; omega)
  | i + 1, hi => (H.op i (by omega)).free (H.fresh i (by omega)) (by have := H.xmono i (by omega); omega)

/-- A slot is empty till its operation has come. -/
theorem Rec.unborn (H : Rec P N ops n0 n σs c o v u) {j : Nat} (hj : j < n) : ∀ i, i ≤ j → (σs i).h (n0 + j) = none
  | 0, _ => H.fresh0 _ (by omega)
  | i + 1, hi => (H.op i (by omega)).res _ (by omega) (by have := H.xmono i (by omega); omega) (H.unborn hj i (by omega))

/-- What an operation that is no 'W' changes. -/
theorem Rec.mod (H : Rec P N ops n0 n σs c o v u) {j b : Nat} (hj : j < n) (hm : (σs (j + 1)).h b ≠ (σs j).h b) (hW : c j ≠ .W) :
    c j ≠ .P ∧ (b = n0 + j ∨ (c j = .F ∧ n0 ≤ b ∧ (σs j).h b ≠ none ∧ ∃ y ∈ u j, y.1 = b ∧ y.1 ≠ n0 + j)) := by
  obtain ⟨_, h2, h3⟩ := (H.op j hj).quiet hW
  have hin : ∃ y ∈ u j, y.1 = b := by
    by_cases hh : ∃ y ∈ u j, y.1 = b
    · exact hh
    · exact absurd (by rw [h2, upds_notin _ _ _ fun y hy e => hh ⟨y, hy, e⟩]) hm
  obtain ⟨y, hy, rfl⟩ := hin
  refine ⟨(fun hP => by rw [(H.op j hj).pure hP] at hy; cases hy), ?_⟩
  rcases h3 y hy with h4 | h4
  · exact .inl h4.1
  · by_cases he : y.1 = n0 + j
    · exact .inl he
    · exact .inr ⟨h4.1, h4.2.1, h4.2.2.2, y, hy, rfl, he⟩

theorem Anc.closed (H : Rec P N ops n0 n σs c o v u) (hcl : ∀ j, j < n → D j = true → ∀ p ∈ Av.preds (o j), D p = true) {i j : Nat} (h : Anc ops i j) : j < n → D j = true → D i = true := by
  induction h with
  | base ho h =>
    intro hj hd
    have := (H.op _ hj).op
    rw [ho] at this; cases this
    exact hcl _ hj hd _ h
  | step ho h k ih =>
    intro hj hd
    have := (H.op _ hj).op
    rw [ho] at this; cases this
    have hp := H.preds _ hj _ h
    exact ih (by omega) (hcl _ hj hd _ h)

/-- i may come next: what is not ordered with it. -/
structure Next (H : Rec P N ops n0 n σs c o v u) (D : Nat → Bool) (i : Nat) : Prop where
  lt : i < n
  no : D i = false
  before : ∀ j, j < i → D j = false → (o j).apart ops (o i) = true ∧ conflict (c j) (c i) = false
  behind : ∀ j, i < j → j < n → D j = true → (o i).apart ops (o j) = true ∧ conflict (c i) (c j) = false

theorem Next.of (H : Rec P N ops n0 n σs c o v u) (hcl : ∀ j, j < n → D j = true → ∀ p ∈ Av.preds (o j), D p = true) {i : Nat} (hi : i < n) (hno : D i = false) (hp : ∀ p ∈ Av.preds (o i), D p = true) : Next H D i := by
  refine ⟨hi, hno, fun j hj hd => ?_, fun j hj hjn hd => ?_⟩
  · refine (H.indep j i hj hi).resolve_left fun ha => ?_
    have : D j = true := by
      have key : ∀ {a b}, Anc ops a b → b = i → D a = true := by
        intro a b hab
        cases hab with
        | base ho h => intro e; subst e; have := (H.op _ hi).op; rw [ho] at this; cases this; exact hp _ h
        | step ho h k => intro e; subst e; have := (H.op _ hi).op; rw [ho] at this; cases this
                         exact k.closed H hcl (by have := H.preds _ hi _ h; omega) (hp _ h)
      exact key ha rfl
    rw [hd] at this; cases this
  · refine (H.indep i j hj hjn).resolve_left fun ha => ?_
    have := ha.closed H hcl hjn hd
    rw [hno] at this; cases this

/-- What an operation that may come next sees of the memory is there. -/
theorem Next.sees {H : Rec P N ops n0 n σs c o v u} {i : Nat} (X : Next H D i) (hP : c i ≠ .P) {b : Nat} (hs : ∀ j, j < n → D j = false → b ≠ n0 + j) (hL : c i = .L → b < n0)
    (hsome : (σs i).h b ≠ none ∨ c i = .W) : gD σs D n b = (σs i).h b := by
  have e2 : gD σs D n b = gD σs D i b := by
    refine gD_eq2 b i n (by have := X.lt; omega) fun j hij hjn hd => ?_
    by_cases hm : (σs (j + 1)).h b = (σs j).h b
    · exact hm
    exfalso
    have hne : i ≠ j := fun e => by subst e; rw [X.no] at hd; cases hd
    have hcf := (X.behind j (by omega) hjn hd).2
    have hW : c j ≠ .W := fun e => by rw [e] at hcf; revert hP hcf; cases c i <;> simp [conflict]
    obtain ⟨hjP, hor⟩ := H.mod hjn hm hW
    have hciW : c i ≠ .W := fun e => by rw [e] at hcf; revert hjP hcf; cases c j <;> simp [conflict]
    rcases hor with hb | ⟨hF, hb0, _, _⟩
    · have := H.unborn hjn i (by omega)
      rw [← hb] at this
      exact hsome.elim (fun h => h this) hciW
    · rw [hF] at hcf
      have : c i = .L := by revert hP hcf hciW; cases c i <;> simp [conflict]
      have := hL this; omega
  rw [e2]
  refine gD_eq1 b i fun j hj hm => ?_
  cases hd : D j with
  | true => rfl
  | false =>
    exfalso
    have hjn : j < n := by have := X.lt; omega
    have hcf := (X.before j hj hd).2
    have hW : c j ≠ .W := fun e => by rw [e] at hcf; revert hP hcf; cases c i <;> simp [conflict]
    obtain ⟨hjP, hor⟩ := H.mod hjn hm hW
    rcases hor with hb | ⟨hF, hb0, _, _⟩
    · exact hs j hjn hd hb
    · rw [hF] at hcf
      have : c i = .L := by revert hP hcf; cases c i <;> simp [conflict]
      have := hL this; omega

theorem Next.slots {H : Rec P N ops n0 n σs c o v u} {i : Nat} (X : Next H D i) {x : Nat} (hx : x ∈ (o i).looksAt ops) : tD σs o D n x = (σs i).t x := by
  have e2 : tD σs o D n x = tD σs o D i x := by
    refine tD_eq2 x i n (by have := X.lt; omega) fun j hij hjn hd he => ?_
    have hne : i ≠ j := fun e => by subst e; rw [X.no] at hd; cases hd
    exact (Oper.apart_spec (X.behind j (by omega) hjn hd).1).2.2 x he hx
  rw [e2]
  refine tD_eq1 H x i (by have := X.lt; omega) fun j hj he => ?_
  cases hd : D j with
  | true => rfl
  | false => exact absurd hx ((Oper.apart_spec (X.before j hj hd).1).1 x he)

theorem Next.xs {H : Rec P N ops n0 n σs c o v u} {i : Nat} (X : Next H D i) (hW : c i = .W) : xD σs c D n = (σs i).x := by
  have e2 : xD σs c D n = xD σs c D i := by
    refine xD_eq2 i n (by have := X.lt; omega) fun j hij hjn hd he => ?_
    have hne : i ≠ j := fun e => by subst e; rw [X.no] at hd; cases hd
    have := (X.behind j (by omega) hjn hd).2
    rw [hW, he] at this; simp [conflict] at this
  rw [e2]
  refine xD_eq1 H i (by have := X.lt; omega) fun j hj he => ?_
  cases hd : D j with
  | true => rfl
  | false =>
    have := (X.before j hj hd).2
    rw [hW, he] at this; simp [conflict] at this

/-- One more. -/
def more (D : Nat → Bool) (i : Nat) : Nat → Bool := fun j => j == i || D j

theorem tD_more {i : Nat} (H : Rec P N ops n0 n σs c o v u) (X : Next H D i) (x : Nat) : tD σs o (more D i) n x = if (o i).dst = some x then v i else tD σs o D n x := by
  have hi := X.lt
  by_cases hd : (o i).dst = some x
  · rw [if_pos hd]
    have e1 : tD σs o (more D i) n x = tD σs o (more D i) (i + 1) x := tD_eq2 x (i + 1) n (by omega) fun j hij hjn hD he => by
      have hne : ¬ j = i := by omega
      have hDj : D j = true := by simpa [more, hne] using hD
      exact (Oper.apart_spec (X.behind j (by omega) hjn hDj).1).2.1 x hd he
    rw [e1]
    simp only [tD, more]
    simp only [beq_self_eq_true, Bool.true_or, true_and, hd, if_true]
    rw [(H.op i hi).t, hd]
    simp [put]
  · rw [if_neg hd]
    have key : ∀ k, tD σs o (more D i) k x = tD σs o D k x := by
      intro k
      induction k with
      | zero => rfl
      | succ k ih =>
        simp only [tD]
        by_cases hk : k = i
        · subst hk
          rw [if_neg (fun h => hd h.2), if_neg (fun h => hd h.2)]; exact ih
        · have : more D i k = D k := by simp [more, hk]
          rw [this, ih]
    exact key n

theorem gD_more_ne {i b : Nat} (hm : (σs (i + 1)).h b = (σs i).h b) : ∀ k, gD σs (more D i) k b = gD σs D k b
  | 0 => rfl
  | k + 1 => by
    simp only [gD]
    by_cases hk : k = i
    · subst hk
      rw [if_neg (fun h => h.2 hm), if_neg (fun h => h.2 hm)]; exact gD_more_ne hm k
    · have : more D i k = D k := by simp [more, hk]
      rw [this, gD_more_ne hm k]

theorem gD_more {i b : Nat} (hi : i < n) (hm : (σs (i + 1)).h b ≠ (σs i).h b) (hl : ∀ j, i < j → j < n → D j = true → (σs (j + 1)).h b = (σs j).h b) : gD σs (more D i) n b = (σs (i + 1)).h b := by
  have e1 : gD σs (more D i) n b = gD σs (more D i) (i + 1) b := gD_eq2 b (i + 1) n (by omega) fun j hij hjn hD => by
    have hne : ¬ j = i := by omega
    exact hl j (by omega) hjn (by simpa [more, hne] using hD)
  rw [e1]
  simp only [gD]
  rw [if_pos ⟨by simp [more], hm⟩]

theorem xD_more {i : Nat} (H : Rec P N ops n0 n σs c o v u) (X : Next H D i) : xD σs c (more D i) n = if c i = .W then (σs (i + 1)).x else xD σs c D n := by
  have hi := X.lt
  by_cases hW : c i = .W
  · rw [if_pos hW]
    have e1 : xD σs c (more D i) n = xD σs c (more D i) (i + 1) := xD_eq2 (i + 1) n (by omega) fun j hij hjn hD he => by
      have hne : ¬ j = i := by omega
      have hDj : D j = true := by simpa [more, hne] using hD
      have := (X.behind j (by omega) hjn hDj).2
      rw [hW, he] at this; simp [conflict] at this
    rw [e1]
    simp [xD, more, hW]
  · rw [if_neg hW]
    have key : ∀ k, xD σs c (more D i) k = xD σs c D k := by
      intro k
      induction k with
      | zero => rfl
      | succ k ih =>
        simp only [xD]
        by_cases hk : k = i
        · subst hk
          rw [if_neg (fun h => hW h.2), if_neg (fun h => hW h.2)]; exact ih
        · have : more D i k = D k := by simp [more, hk]
          rw [this, ih]
    exact key n

end
end Go.Av
