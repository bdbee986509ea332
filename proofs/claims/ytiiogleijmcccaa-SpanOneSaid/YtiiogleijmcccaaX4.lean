/-
  Layer 16: a word's row, by those behind. Conditions: none.
-/
import Derived.Test.YtiiogleijmcccaaX3
namespace Go.Av
open Go.Proofs
set_option maxRecDepth 100000
set_option linter.unusedSimpArgs false
set_option linter.unusedVariables false

theorem eR_d {f : Nat → Nat} : List.drop 25 (eRw f) = [] := List.drop_eq_nil_of_le (by rw [eR_len]; exact Nat.le_refl _)

/-- A row with what comes of a production. -/
def putR (f : Nat → Nat) (left : Nat) (r : Nat × Bool) : Nat → Nat := fun i => if i = 24 then (if r.2 = true then f 24 ||| 2 ^ left else f 24) else if i = left then f left ||| r.1 else f i

def muR (f : Nat → Nat) : Nat := ((List.range 25).map fun i => 2 ^ 32 - f i).sum

theorem sum_le : ∀ (l : List Nat) (f g : Nat → Nat), (∀ i ∈ l, f i ≤ g i) → (l.map f).sum ≤ (l.map g).sum
  | [], f, g, _ => Nat.le_refl _
  | x :: l, f, g, h => by
    have h1 := sum_le l f g fun i hi => h i (by simp [hi])
    have h2 := h x (by simp)
    simp only [List.map_cons, List.sum_cons]
    omega

theorem sum_lt : ∀ (l : List Nat) (f g : Nat → Nat), (∀ i ∈ l, f i ≤ g i) → (∃ i ∈ l, f i < g i) → (l.map f).sum < (l.map g).sum
  | [], f, g, _, ⟨i, hi, _⟩ => by cases hi
  | x :: l, f, g, h, ⟨i, hi, hlt⟩ => by
    have h1 := sum_le l f g fun i hi => h i (by simp [hi])
    have h2 := h x (by simp)
    simp only [List.map_cons, List.sum_cons]
    rcases List.mem_cons.1 hi with rfl | hi
    · omega
    · have := sum_lt l f g (fun i hi => h i (by simp [hi])) ⟨i, hi, hlt⟩
      omega

/-- Rows that may be, of their own. -/
def RwOk (f : Nat → Nat) : Prop := (∀ i, f i < 2 ^ 32) ∧ ∀ i, 25 ≤ i → f i = 0

theorem muR_lt {f g : Nat → Nat} (hf : RwOk f) (hg : RwOk g) (hle : ∀ i, f i ≤ g i) (hne : f ≠ g) : muR g < muR f := by
  have : ∃ i, f i ≠ g i := by
    refine Classical.byContradiction fun h => hne (funext fun i => Classical.byContradiction fun h2 => h ⟨i, h2⟩)
  obtain ⟨i, hi⟩ := this
  have hi25 : i < 25 := by
    by_cases h : i < 25
    · exact h
    · exact absurd (by rw [hf.2 i (by omega), hg.2 i (by omega)]) hi
  refine sum_lt _ _ _ (fun j _ => ?_) ⟨i, List.mem_range.2 hi25, ?_⟩
  · have := hle j; omega
  · have := hle i; have := hg.1 i; omega

theorem putR_ok {f : Nat → Nat} {left : Nat} {r : Nat × Bool} (hf : RwOk f) (hl : left < 24) (hr : r.1 < 2 ^ 32) : RwOk (putR f left r) := by
  refine ⟨fun i => ?_, fun i hi => ?_⟩
  · unfold putR
    split
    · split
      · exact Nat.or_lt_two_pow (hf.1 24) (Nat.pow_lt_pow_right (by decide) (by omega))
      · exact hf.1 24
    · split
      · exact Nat.or_lt_two_pow (hf.1 left) hr
      · exact hf.1 i
  · unfold putR
    rw [if_neg (by omega), if_neg (by omega)]
    exact hf.2 i hi

theorem putR_le {f : Nat → Nat} {left : Nat} {r : Nat × Bool} : ∀ i, f i ≤ putR f left r i := fun i => by
  unfold putR
  split
  · rename_i e
    rw [e]
    split
    · exact Nat.left_le_or
    · exact Nat.le_refl _
  · split
    · rename_i e
      rw [e]
      exact Nat.left_le_or
    · exact Nat.le_refl _

theorem comesL_lt {w : List Int} {rows : List (Nat → Nat)} (h : rows.length ≤ 31) : ∀ (r : List Sy) (k : Nat) (m : Bool), k < 2 ^ 32 → (comesL w rows r k m).1 < 2 ^ 32
  | [], k, m, hk => hk
  | s :: r, k, m, hk => comesL_lt h r _ _ (stepF_lt h)

theorem comesF_lt {w : List Int} {rows : List (Nat → Nat)} {p : Pr} (h : rows.length ≤ 31) : (comesF w rows p).1 < 2 ^ 32 := comesL_lt h _ _ _ (by decide)

def eqR (a b : Nat → Nat) : Bool := (List.range 25).all fun i => decide (a i = b i)

theorem eqs_in {f g : Nat → Nat} : ∀ l : List Nat, eqs (l.map fun _ => EK.int .u32) (l.map fun t => .int .u32 (f t : Nat)) (l.map fun t => .int .u32 (g t : Nat)) = some (l.all fun i => decide (f i = g i))
  | [] => rfl
  | x :: l => by
    simp only [List.map_cons, eqs, eqs_in l, eq1, and_self, if_true, List.all_cons]
    have : ((f x : Int) == (g x : Int)) = decide (f x = g x) := by rw [int_beq]; exact decide_eq_decide.2 Int.ofNat_inj
    rw [this]

theorem eqs_rw {f g : Nat → Nat} : eqs [.int .u32, .int .u32, .int .u32, .int .u32, .int .u32, .int .u32, .int .u32, .int .u32, .int .u32, .int .u32, .int .u32, .int .u32, .int .u32, .int .u32, .int .u32, .int .u32, .int .u32, .int .u32, .int .u32, .int .u32, .int .u32, .int .u32, .int .u32, .int .u32, .int .u32] (eRw f) (eRw g) = some (eqR f g) := eqs_in (List.range 25)

theorem eqR_iff {f g : Nat → Nat} (hf : RwOk f) (hg : RwOk g) : eqR f g = true ↔ f = g := by
  unfold eqR
  rw [List.all_eq_true]
  constructor
  · intro h
    funext i
    by_cases hi : i < 25
    · simpa using h i (List.mem_range.2 hi)
    · rw [hf.2 i (by omega), hg.2 i (by omega)]
  · intro h i _
    rw [h]; simp

set_option maxHeartbeats 16000000 in
theorem f77 (g : Gr) (hg : g.Small) (hr : right g = true) (w : List Int) (hw : w.length ≤ 30) (B : List (Nat → Nat)) (hB : B.length ≤ 30) (hrw : RwIn B) (Snd : (Nat → Nat) → Prop) (hz : Snd fun _ => 0)
    (hsn : ∀ f p, p ∈ g.prods → Snd f → Snd (putR f p.left.toNat (comesF w (f :: B) p))) :
    ∃ f, PF pg Tq 77 [.agg (eGr g), .ro (w.map eIn), .ro (B.map eRw)] (.agg (eRw f)) ∧ RwOk f ∧ Snd f ∧ ∀ p, p ∈ g.prods → putR f p.left.toNat (comesF w (f :: B) p) = f := by
  obtain ⟨⟨hn1, hn2⟩, _, _, hp60, h5⟩ := right_in hr
  have hin : ∀ f, RwOk f → RwIn (f :: B) := fun f hf j i => by
    cases j with
    | zero => exact hf.1 i
    | succ j => exact hrw j i
  have fin : FH pg Tq 77 [.agg (eGr g), .ro (w.map eIn), .ro (B.map eRw)] h0 0 fun r h n => ∃ f, r = .agg (eRw f) ∧ RwOk f ∧ Snd f ∧ ∀ p, p ∈ g.prods → putR f p.left.toNat (comesF w (f :: B) p) = f := by
    refine FH.of (N := 68) (rs := #[.cell 6 90]) Try.func77 rfl rfl (of_decide_eq_true rfl) rfl (by decide) ?_
    refine W.rseq (k := 2) rfl fun K hK => ?_
    simp only [go_sem]
    refine hK _ _ _ ?_
    clear hK K
    have tkB : (B.map eRw).take B.length = B.map eRw := List.take_of_length_le (by simp)
    refine W.rseq (k := 5) rfl fun K hK => ?_
    simp only [go_sem, eR_z, tkB, len_map (e := eRw) (sz := 25) (fun x => eR_len), eR_len, eR_scal, List.length_map, and_self, if_true, show (1 + B.length) * 100 ≤ 140737488355328 by omega, Nat.lt_irrefl, and_false, if_false]
    refine hK _ _ _ ?_
    first | clear hK K | clear hK | skip
    obtain ⟨bR, hbR⟩ : ∃ bR, bR = 5 := ⟨_, rfl⟩
    obtain ⟨T, hT⟩ : ∃ T, T = 1 + B.length := ⟨_, rfl⟩
    have z0R : ¬ 0 = bR := by omega
    have z1R : ¬ 1 = bR := by omega
    have hT0 : (0 : Int) < (T : Int) := by omega
    refine W.seqk fun K hK => ?_
    refine W.rseq (k := 1) rfl fun K hK => ?_
    simp only [go_sem]
    refine hK _ _ _ ?_
    clear hK K
    have nx0 : ∀ (t' : Fr) (h' : Heap) (n' : Nat) (f : Nat → Nat), bR < n' → h' 1 = some (.cells [eRw fun _ => 0]) → h' bR = some (.cells ((f :: B).map eRw)) → t' 6 = .ptr 1 0 0 → t' 7 = .sl bR 0 T 25 → RwOk f → Snd f → (∀ p, p ∈ g.prods → putR f p.left.toNat (comesF w (f :: B) p) = f) → K t' h' n' := by
      intro t' h' n' f e1 e2 e3 e4 e5 e6 e7 e8
      refine hK _ _ _ ?_
      clear hK K
      refine W.rseq (k := 4) rfl fun K hK => ?_
      simp only [go_sem, e5, e4, e3, e2, hT0, List.map_cons, List.getElem?_cons_zero, eR_len, eR_tk, eR_scal, z1R, eR_d, List.append_nil]
      refine hK _ _ _ ?_
      clear hK K
      refine W.ret ?_
      simp only [go_sem, e4, eR_d, List.append_nil, eR_len, eR_tk]
      exact ⟨f, rfl, e6, e7, e8⟩
    clear hK
    refine W.block (W.while (fun m t h n => ∃ (f : Nat → Nat) (again : Bool), m = 2 * muR f + (if again = true then 1 else 0) ∧ RwOk f ∧ Snd f ∧ (again = false → ∀ p, p ∈ g.prods → putR f p.left.toNat (comesF w (f :: B) p) = f) ∧ bR < n ∧ h 0 = some (.cells [eGr g]) ∧ h 1 = some (.cells [eRw fun _ => 0]) ∧ h bR = some (.cells ((f :: B).map eRw)) ∧ (t 1 = .ro (w.map eIn) ∧ t 3 = .ptr 0 0 0 ∧ t 6 = .ptr 1 0 0 ∧ t 7 = .sl bR 0 T 25) ∧ t 8 = .bool again) (2 * muR (fun _ => 0) + 1)
      ⟨fun _ => 0, true, by simp, ⟨fun i => (show 0 < 2 ^ 32 by decide), fun i _ => rfl⟩, hz, (fun e => by cases e), by omega, by simp only [go_sem], by simp only [go_sem], by rw [hbR]; simp only [go_sem]; rfl, ⟨rfl, rfl, rfl, by rw [hbR, hT]; rfl⟩, rfl⟩ fun m t h n ⟨f, again, i1, i2, i3, i4, i5, i6, i7, i8, i9, i10⟩ => ?_)
    have i9' := i9
    obtain ⟨a1, a3, a6, a7⟩ := i9'
    refine W.seq ?_
    refine W.rseq (k := 1) rfl fun K hK => ?_
    simp only [go_sem, i10]
    refine hK _ _ _ ?_
    clear hK K
    cases ha : again
    · refine W.condF (by simp only [go_sem, ha]) ?_
      refine W.exit ?_
      simp only [go_sem]
      exact nx0 _ _ _ f (by omega) i7 i8 a6 a7 i2 i3 (i4 ha)
    refine W.condT (by simp only [go_sem, ha]) ?_
    refine W.skip ?_
    simp only [go_sem]
    rw [ha, if_pos rfl] at i1
    clear nx0 i4 i10
    refine W.block ?_
    have zR : ∀ j, ¬ bR = n + j := fun j => by omega
    have z0 : ∀ j, ¬ 0 = n + j := fun j => by omega
    have z1 : ∀ j, ¬ 1 = n + j := fun j => by omega
    refine W.rseq (k := 5) rfl fun K hK => ?_
    simp only [go_sem, a7, i8, hT0, List.map_cons, List.getElem?_cons_zero, eR_len, eR_tk, eR_scal, eR_dz, List.append_nil, zR]
    refine hK _ _ _ ?_
    clear hK K
    refine W.seqk fun K hK => ?_
    refine W.rseq (k := 4) rfl fun K hK => ?_
    simp only [go_sem, a3, i6, z0]
    refine hK _ _ _ ?_
    clear hK K
    have nx1 : ∀ (t' : Fr) (h' : Heap) (n' : Nat) (f' : Nat → Nat), n + 4 < n' → h' 0 = some (.cells [eGr g]) → h' 1 = some (.cells [eRw fun _ => 0]) → h' bR = some (.cells ((f' :: B).map eRw)) → h' (n + 4) = some (.cells [eRw f]) → (t' 1 = .ro (w.map eIn) ∧ t' 3 = .ptr 0 0 0 ∧ t' 6 = .ptr 1 0 0 ∧ t' 7 = .sl bR 0 T 25) → t' 9 = .ptr (n + 4) 0 0 → RwOk f' → Snd f' → (∀ i, f i ≤ f' i) → (f' = f → ∀ p, p ∈ g.prods → putR f p.left.toNat (comesF w (f :: B) p) = f) → K t' h' n' := by
      intro t' h' n' f' e1 e2 e3 e4 e5 e6 e7 e8 e9 e10 e11
      refine hK _ _ _ ?_
      clear hK K
      have e6' := e6
      obtain ⟨a1, a3, a6, a7⟩ := e6'
      have lR : ∀ j, (bR < n' + j) = True := fun j => eq_true (by omega)
      have l9 : ∀ j, (n + 4 < n' + j) = True := fun j => eq_true (by omega)
      refine W.draw (k := 6) rfl ?_
      simp only [go_sem, a7, e4, e5, e7, hT0, List.map_cons, List.getElem?_cons_zero, eR_len, eR_tk, eq_true e1, eq_true (show bR < n' by omega), eqs_rw]
      refine ⟨by kernel_rfl, ?_⟩
      by_cases hff : f' = f
      · subst hff
        refine ⟨2 * muR f', by omega, f', false, by simp, e8, e9, fun _ => e11 rfl, by omega, e2, e3, rfl, ⟨a1, a3, a6⟩, ?_⟩
        rw [(eqR_iff e8 e8).2 rfl]; rfl
      · have hlt := muR_lt i2 e8 e10 (Ne.symm hff)
        refine ⟨2 * muR f' + 1, by omega, f', true, by simp, e8, e9, (fun e => by cases e), by omega, e2, e3, rfl, ⟨a1, a3, a6⟩, ?_⟩
        have : eqR f' f = false := by
          cases h : eqR f' f
          · rfl
          · exact absurd ((eqR_iff e8 i2).1 h) hff
        rw [this]; rfl
    clear hK
    refine W.block (W.while (fun m t h1 n1 => ∃ (k : Nat) (f' : Nat → Nat), m = g.prods.length - k ∧ k ≤ g.prods.length ∧ RwOk f' ∧ Snd f' ∧ (∀ i, f i ≤ f' i) ∧ (f' = f → ∀ p, p ∈ g.prods.take k → putR f p.left.toNat (comesF w (f :: B) p) = f) ∧ n + 4 < n1 ∧ h1 0 = some (.cells [eGr g]) ∧ h1 1 = some (.cells [eRw fun _ => 0]) ∧ h1 bR = some (.cells ((f' :: B).map eRw)) ∧ h1 (n + 4) = some (.cells [eRw f]) ∧ (t 1 = .ro (w.map eIn) ∧ t 3 = .ptr 0 0 0 ∧ t 6 = .ptr 1 0 0 ∧ t 7 = .sl bR 0 T 25) ∧ t 9 = .ptr (n + 4) 0 0 ∧ (t 23 = .ro (g.prods.map ePr) ∧ t 24 = .int .i64 g.prods.length) ∧ t 25 = .int .i64 k) g.prods.length
      ⟨0, f, by simp, by simp, i2, i3, fun i => Nat.le_refl _, fun _ p hp => (by cases hp), by omega, by simp only [go_sem, z0, i6], by simp only [go_sem, z1, i7], by simp only [go_sem, zR, i8], by simp only [go_sem], i9, rfl, ⟨rfl, by simp only [go_sem]⟩, rfl⟩ fun m t h1 n1 ⟨k, f', k1, k2, k3, k4, k5, k6, k7, k8, k9, k10, k11, k12, k13, k14, k15⟩ => ?_)
    clear a1 a3 a6 a7
    have k12' := k12
    obtain ⟨a1, a3, a6, a7⟩ := k12'
    have k14' := k14
    obtain ⟨a23, a24⟩ := k14'
    refine W.rseq (k := 1) rfl fun K hK => ?_
    simp only [go_sem, a24, k15]
    refine hK _ _ _ ?_
    clear hK K
    refine W.seq ?_
    refine W.cond rfl (fun hc => ?_) fun hc => ?_
    · refine W.skip ?_
      simp only [go_sem]
      have hk : k < g.prods.length := by simp at hc; omega
      obtain ⟨p, hp⟩ := get_some hk
      have hm : p ∈ g.prods := List.mem_of_getElem? hp
      obtain ⟨⟨hl0, hl1⟩, h8, hsy⟩ := h5 p hm
      obtain ⟨ℓ, hℓ⟩ : ∃ ℓ : Nat, p.left = ℓ := ⟨p.left.toNat, by omega⟩
      have hℓt : p.left.toNat = ℓ := by omega
      have hℓ24 : ℓ < 24 := by omega
      have hrl : (f' :: B).length ≤ 31 := by simp; omega
      have h110 := f110 p w hw (f' :: B) hrl (hin f' k3) (by omega) fun s hs hn => by
        have := hsy s hs
        rw [if_pos hn] at this
        omega
      obtain ⟨R, hR⟩ : ∃ R, R = comesF w (f' :: B) p := ⟨_, rfl⟩
      have hRl : R.1 < 2 ^ 32 := by rw [hR]; exact comesF_lt hrl
      have hput : RwOk (putR f' ℓ R) := putR_ok k3 hℓ24 hRl
      rw [← hR] at h110
      have zR1 : ∀ j, ¬ bR = n1 + j := fun j => by omega
      have z01 : ∀ j, ¬ 0 = n1 + j := fun j => by omega
      have z11 : ∀ j, ¬ 1 = n1 + j := fun j => by omega
      have z91 : ∀ j, ¬ n + 4 = n1 + j := fun j => by omega
      have z9R : ¬ n + 4 = bR := by omega
      refine W.seqk fun K hK => ?_
      have nx2 : ∀ (t' : Fr) (h' : Heap) (n' : Nat), n + 4 < n' → h' 0 = some (.cells [eGr g]) → h' 1 = some (.cells [eRw fun _ => 0]) → h' bR = some (.cells (((putR f' ℓ R) :: B).map eRw)) → h' (n + 4) = some (.cells [eRw f]) → (t' 1 = .ro (w.map eIn) ∧ t' 3 = .ptr 0 0 0 ∧ t' 6 = .ptr 1 0 0 ∧ t' 7 = .sl bR 0 T 25) → t' 9 = .ptr (n + 4) 0 0 → (t' 23 = .ro (g.prods.map ePr) ∧ t' 24 = .int .i64 g.prods.length) → t' 25 = .int .i64 k → K t' h' n' := by
        intro t' h' n' e1 e2 e3 e4 e5 e6 e7 e8 e9
        refine hK _ _ _ ?_
        clear hK K
        refine W.region (k := 2) rfl ?_
        simp only [go_sem, e9]
        refine ⟨g.prods.length - (k + 1), by omega, k + 1, putR f' ℓ R, rfl, by omega, hput, ?_, fun i => Nat.le_trans (k5 i) (putR_le i), fun he q hq => ?_, by omega, e2, e3, e4, e5, e6, e7, e8, ?_⟩
        · have := hsn f' p hm k4
          rwa [hℓt, ← hR] at this
        · have hff : f' = f := by
            funext i
            have h1 := k5 i
            have h2 := putR_le (f := f') (left := ℓ) (r := R) i
            rw [he] at h2
            omega
          rw [List.take_add_one, hp] at hq
          rcases List.mem_append.1 hq with hq | hq
          · exact k6 hff q hq
          · have hq : q = p := by simpa using hq
            rw [hq, hℓt]
            rw [hff] at hR he
            rw [← hR]; exact he
        · rw [wrap64 (by omega) (by omega)]; rfl
      clear hK
      refine W.block ?_
      refine W.rseq (k := 4) rfl fun K hK => ?_
      simp only [go_sem, a23, k15, hp]
      refine hK _ _ _ ?_
      clear hK K
      refine W.rseq (k := 9) rfl fun K hK => ?_
      simp only [go_sem, a1, a7]
      refine VCall.frzq (as' := [.agg (ePr p), .ro (w.map eIn), .ro ((f' :: B).map eRw)]) 5 ?_ h110 ?_
      · have hfz : ∀ v w' : Option AO, rf true 4 (upd (upd h1 (n1 + 3) v) (n1 + 3) w') (.sl bR 0 T 25) = some (.ro ((f' :: B).map eRw)) := fun v w' =>
          SlL.frz (e := eRw) (sz := 25) (lo := 0) (n := n1) (l := f' :: B) (.inr ⟨bR, by rw [hT, List.length_cons, Nat.add_comm], by omega, by omega, by simp only [go_sem, zR1, k10]⟩) (d := 2) fun x _ => rfs_rw
        simp only [rfs, List.mapM_cons, hfz]
        rfl
      simp only [go_sem]
      refine hK _ _ _ ?_
      first | clear hK K | clear hK | skip
      have lR : ∀ j, (bR < n1 + j) = True := fun j => eq_true (by omega)
      have hor := or32 (k3.1 ℓ) hRl
      refine W.dseq (k := 13) rfl fun K hK => ?_
      simp only [go_sem, a7, lR, zR1, k10, hℓ, hT0, List.map_cons, List.getElem?_cons_zero, eR_len, eR_get (show ℓ < 25 by omega), show (ℓ : Int) < 24 by omega, hor, Nat.mul_one, show ℓ + 1 ≤ 25 by omega, eR_over (show ℓ < 25 by omega)]
      refine hK _ _ _ _ (by kernel_rfl) ?_
      clear hK K
      refine W.rseq (k := 1) rfl fun K hK => ?_
      simp only [go_sem]
      refine hK _ _ _ ?_
      clear hK K
      cases hR2 : R.2
      · refine W.condF (by simp only [go_sem, hR2]) ?_
        refine W.skip ?_
        simp only [go_sem]
        have hpe : putR f' ℓ R = fun x => if x = ℓ then f' ℓ ||| R.1 else f' x := by
          funext i
          unfold putR
          rw [hR2]
          by_cases e : i = 24
          · subst e
            rw [if_pos rfl, if_neg (show ¬ (false = true) by decide), if_neg (show ¬ 24 = ℓ by omega)]
          · rw [if_neg e]
        refine nx2 _ _ _ (by omega) (by simp only [go_sem, z0R, z01, k8]) (by simp only [go_sem, z1R, z11, k9]) (by rw [hpe]; simp only [go_sem]; rfl) (by simp only [go_sem, z9R, z91, k11]) k12 k13 k14 k15
      · refine W.condT (by simp only [go_sem, hR2]) ?_
        have hor2 := or32 (k3.1 24) (Nat.pow_lt_pow_right (show 1 < 2 by decide) (show ℓ < 32 by omega))
        have hpe : putR f' ℓ R = fun x => if x = 24 then f' 24 ||| 2 ^ ℓ else if x = ℓ then f' ℓ ||| R.1 else f' x := by
          funext i
          unfold putR
          rw [hR2, if_pos rfl]
        refine W.draw (k := 11) rfl ?_
        simp only [go_sem, a7, lR, zR1, show ∀ j, ¬ n1 + j = bR from fun j => by omega, z0R, hℓ, hT0, List.getElem?_cons_zero, eR_len, eR_get (show 24 < 25 by omega), shl32 (show ℓ < 32 by omega), show ¬ 24 = ℓ by omega, hor2, eR_over (show 24 < 25 by omega)]
        refine ⟨by kernel_rfl, ?_⟩
        refine nx2 _ _ _ (by omega) (by simp only [go_sem, z0R, z01, k8]) (by simp only [go_sem, z1R, z11, k9]) (by rw [hpe]; simp only [go_sem]; rfl) (by simp only [go_sem, z9R, z91, k11]) k12 k13 k14 k15
    · refine W.exit ?_
      simp only [go_sem]
      have hk : k = g.prods.length := by simp at hc; omega
      rw [hk, List.take_length] at k6
      exact nx1 _ _ _ f' (by omega) k8 k9 k10 k11 k12 k13 k3 k4 k5 k6
  obtain ⟨r, h', n', hb, f, rfl, q⟩ := fin
  exact ⟨f, ⟨_, h', n', hb, 5, fun fr => by simp [rf, rfs_rw]⟩, q⟩

end Go.Av

