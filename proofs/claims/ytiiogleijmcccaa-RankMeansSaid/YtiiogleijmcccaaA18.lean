/-
  What runs on abstract values runs so in the model. Conditions: none.
-/
import Derived.Test.YtiiogleijmcccaaA17
import Derived.ScopeJumps
import Derived.LoopN
namespace Go.Av

/-- The end of a piece of code. -/
def CQ (P : Program) (N : Nat) (e : AEx) (t' : Fr) (h' : Heap) (n' : Nat) (w : World) (S F : Nat → Prop) (m : Pm) (n : Nat) (a : Act) : Exit → Act → World → Prop :=
  fun ex a' w' => ExR e ex ∧ ∃ S' m', St w S F m n w' S' m' n' ∧ TR w' S' m' N t' a' ∧ Rel w' S' F m' h' ∧ a'.defers = a.defers

/-- Numbers only grow; what is empty stays so. -/
def AbsS (h : Heap) (n : Nat) (h' : Heap) (n' : Nat) : Prop := n ≤ n' ∧ (∀ b, b < n → h b = none → h' b = none) ∧ ((∀ b, n ≤ b → h b = none) → ∀ b, n' ≤ b → h' b = none)

theorem AbsS.refl (h : Heap) (n : Nat) : AbsS h n h n := ⟨Nat.le_refl _, fun _ _ h => h, fun h => h⟩

theorem AbsS.trans {h h1 h2 : Heap} {n n1 n2 : Nat} (a : AbsS h n h1 n1) (b : AbsS h1 n1 h2 n2) : AbsS h n h2 n2 :=
  ⟨Nat.le_trans a.1 b.1, fun x hx hh => b.2.1 x (Nat.lt_of_lt_of_le hx a.1) (a.2.1 x hx hh), fun hf => b.2.2 (a.2.2 hf)⟩

theorem St.trans {w w1 w2 : World} {S S1 S2 F : Nat → Prop} {m m1 m2 : Pm} {n n1 n2 : Nat} (a : St w S F m n w1 S1 m1 n1) (b : St w1 S1 F m1 n1 w2 S2 m2 n2) (h : n ≤ n1) : St w S F m n w2 S2 m2 n2 :=
  ⟨a.ext.trans b.ext fun k hk => hk.imp (a.grow k) id, fun k hk => b.grow k (a.grow k hk), fun k hk => (b.new k hk).elim (a.new k) fun h => .inr (Nat.le_trans a.ext.size h),
    fun x p hx => b.le x p (a.le x p hx), fun x hx => (b.old x (Nat.lt_of_lt_of_le hx h)).trans (a.old x hx), b.free⟩

/-- What is asked at the begin. -/
def Pre (N : Nat) (t : Fr) (h : Heap) (n : Nat) (w : World) (S F : Nat → Prop) (m : Pm) (a : Act) : Prop :=
  (∀ b, n ≤ b → h b = none) ∧ Rel w S F m h ∧ TR w S m N t a ∧ ∀ b, n ≤ b → m b = none

def CodeS (P : Program) (N : Nat) (c : Code) (t : Fr) (h : Heap) (n : Nat) (e : AEx) (t' : Fr) (h' : Heap) (n' : Nat) : Prop :=
  AbsS h n h' n' ∧ (∀ w S F m a, Pre N t h n w S F m a → c.wp P (CQ P N e t' h' n' w S F m n a) a w) ∧
    ∀ body, c = .loop body → ∃ r, ∀ w S F m a, Pre N t h n w S F m a → Code.rounds P body (CQ P N e t' h' n' w S F m n a) r a w

def ScpS (P : Program) (N : Nat) (body c : Code) (t : Fr) (h : Heap) (n : Nat) (e : AEx) (t' : Fr) (h' : Heap) (n' : Nat) : Prop :=
  AbsS h n h' n' ∧ ∀ w S F m a, Pre N t h n w S F m a → ∀ (b : Frame) (k : List Item) (cs : List Frame),
    ∃ ex a' w', CQ P N e t' h' n' w S F m n a ex a' w' ∧ Arrives P (lone (b.at a (.code c :: .inScope body :: k)) cs w) b k cs ex a' w'

def Snd (P : Program) : Job → Prop
  | .code N c t h n e t' h' n' => CodeS P N c t h n e t' h' n'
  | .scp N body c t h n e t' h' n' => ScpS P N body c t h n e t' h' n'
  | .op N ops n0 i σ c σ' => OpS P N ops n0 i σ c σ'
  | .ops N ops n0 l σ cs σ' => OpsS P N ops n0 l σ cs σ'
  | .fn f args h n res h' n' => FnS P f args h n res h' n'

theorem opsS_states {P : Program} {N : Nat} {ops : Array Oper} {n0 : Nat} : ∀ (k s : Nat) (σ : OS) (cs : List Cls) (σ' : OS), OpsS P N ops n0 (List.range' s k) σ cs σ' →
    ∃ σs : Nat → OS, σs s = σ ∧ σs (s + k) = σ' ∧ cs.length = k ∧ ∀ j, j < k → OpS P N ops n0 (s + j) (σs (s + j)) (cs.getD j .W) (σs (s + j + 1))
  | 0, s, σ, [], σ', h => by cases h; exact ⟨fun _ => σ, rfl, rfl, rfl, fun j hj => by omega⟩
  | 0, s, σ, _ :: _, σ', h => h.elim
  | k + 1, s, σ, [], σ', h => h.elim
  | k + 1, s, σ, c :: cs, σ', h => by
    rw [List.range'_succ] at h
    obtain ⟨σ1, h1, h2⟩ := h
    obtain ⟨σs, e1, e2, e3, e4⟩ := opsS_states k (s + 1) σ1 cs σ' h2
    refine ⟨fun x => if x ≤ s then σ else σs x, by simp, ?_, by simp [e3], fun j hj => ?_⟩
    · have : ¬ (s + (k + 1) ≤ s) := by omega
      simp only [this, if_false]
      rw [← e2]; congr 1; omega
    · cases j with
      | zero =>
        have : ¬ (s + 0 + 1 ≤ s) := by omega
        simp only [Nat.add_zero, Nat.le_refl, if_true]
        rw [if_neg (by omega), e1]
        exact h1
      | succ j =>
        have := e4 j (by omega)
        have n1 : ¬ (s + (j + 1) ≤ s) := by omega
        have n2 : ¬ (s + (j + 1) + 1 ≤ s) := by omega
        simp only [n1, n2, if_false]
        rw [show s + (j + 1) = s + 1 + j by omega]
        exact this

section
variable {P : Program} {Θ : Tab} {N : Nat}

theorem region_abs {ops : Array Oper} {t : Fr} {h : Heap} {n : Nat} {cs : List Cls} {t' : Fr} {h' : Heap} {n' : Nat} (hb : OpsS P N ops n (List.range ops.size) ⟨t, h, n + ops.size⟩ cs ⟨t', h', n'⟩) : AbsS h n h' n' := by
  obtain ⟨⟨h1, h2, h3⟩, _⟩ := seq_ops _ _ _ _ hb List.nodup_range (fun i hi => by have := List.mem_range.1 hi; simp only; omega)
  exact ⟨by simp only at h1; omega, fun b hb hh => h2 b (fun i _ => by omega) (by simp only; omega) hh, fun hf => h3 fun b hb => hf b (by simp only at hb; omega)⟩

theorem region_seq {id : Nat} {ops : Array Oper} {t : Fr} {h : Heap} {n : Nat} {cs : List Cls} {t' : Fr} {h' : Heap} {n' : Nat} (hb : OpsS P N ops n (List.range ops.size) ⟨t, h, n + ops.size⟩ cs ⟨t', h', n'⟩)
    {w : World} {S F : Nat → Prop} {m : Pm} {a : Act} (hp : Pre N t h n w S F m a) : (Code.region id ops false).wp P (CQ P N .normal t' h' n' w S F m n a) a w := by
  obtain ⟨p1, p2, p3, p4⟩ := hp
  refine wp_region ?_
  obtain ⟨_, hs⟩ := seq_ops _ _ _ _ hb List.nodup_range (fun i hi => by have := List.mem_range.1 hi; simp only; omega)
  refine hs w S F m a _ (fun b hb => p1 b (by simp only at hb; omega)) p2 p3 (fun i _ => p4 _ (by omega)) (fun b hb => p4 b (by simp only at hb; omega)) fun a' w' S' m' e1 e2 e3 e4 e5 e6 e7 e8 e9 => ?_
  exact ⟨trivial, S', m', ⟨e1, e2, e3, e4, fun b hb => e5 b (fun i _ => by omega) (by simp only; omega), e6⟩, e7, e8, e9⟩

theorem region_draw (hm : P.follows .mixedOrders = true) {id : Nat} {ops : Array Oper} {t : Fr} {h : Heap} {n : Nat} {cs : List Cls} {t' : Fr} {h' : Heap} {n' : Nat}
    (hb : OpsS P N ops n (List.range ops.size) ⟨t, h, n + ops.size⟩ cs ⟨t', h', n'⟩) (hd : drawOK ops cs = true) {w : World} {S F : Nat → Prop} {m : Pm} {a : Act} (hp : Pre N t h n w S F m a) :
    (Code.region id ops true).wp P (CQ P N .normal t' h' n' w S F m n a) a w := by
  obtain ⟨p1, p2, p3, p4⟩ := hp
  rw [List.range_eq_range'] at hb
  obtain ⟨σs, s1, s2, s3, s4⟩ := opsS_states _ _ _ _ _ hb
  simp only [Nat.zero_add] at s2 s4
  obtain ⟨d1, d2⟩ := drawOK_spec hd
  have hch : ∀ i : Nat, ∃ x : Oper × AV × Upd, i < ops.size → OpS1 P N ops n i (σs i) (cs.getD i .W) (σs (i + 1)) x.1 x.2.1 x.2.2 := by
    intro i
    by_cases hi : i < ops.size
    · obtain ⟨o, v, u, hx⟩ := s4 i hi
      exact ⟨(o, v, u), fun _ => hx⟩
    · exact ⟨default, fun h => absurd h hi⟩
  obtain ⟨x, hx⟩ := Classical.skolem.1 hch
  have H : Rec P N ops n ops.size σs (fun i => cs.getD i .W) (fun i => (x i).1) (fun i => (x i).2.1) (fun i => (x i).2.2) := by
    refine ⟨fun i hi => hx i hi, by rw [s1], fun b hb => by rw [s1]; exact p1 b hb, rfl, fun i hi => d1 i _ (hx i hi).op, fun i j hij hj => d2 i j _ _ (hx i (by omega)).op (hx j hj).op hij⟩
  refine wp_region_any hm ?_
  have hw : ({ w with drawn := w.drawn + 1 } : World) = w.drew := rfl
  rw [hw]
  have he : Ext (fun k => S k ∨ F k) w w.drew := (ext_drew w).old p2
  refine draw_any (w0 := w) (S0 := S) (F := F) (m0 := m) (a0 := a) H (fun D a' w' hall hI => ?_) ops.size (Array.replicate ops.size false) a w.drew (by simp) ?_ ?_
  · obtain ⟨_, _, S', m', i1, i2, i3, i4, i5, i6, i7, i8, i9, i10⟩ := hI
    have eg : ∀ b, gD σs D ops.size b = h' b := fun b => by rw [gD_eq1 b ops.size fun j hj _ => hall j hj, s2]
    have et : ∀ y, tD σs (fun i => (x i).1) D ops.size y = t' y := fun y => by rw [tD_eq1 H y ops.size (Nat.le_refl _) fun j hj _ => hall j hj, s2]
    have ex : xD σs (fun i => cs.getD i .W) D ops.size = n' := by rw [xD_eq1 H ops.size (Nat.le_refl _) fun j hj _ => hall j hj, s2]
    refine ⟨trivial, S', m', ⟨i1, i2, i3, i4, i5, fun b hb => i7 b (by rw [ex]; exact hb)⟩, ⟨i8.1, fun y => by rw [← et]; exact i8.2 y⟩, ?_, i10⟩
    have : gD σs D ops.size = h' := funext eg
    rw [← this]; exact i9
  · have hD : ∀ j, (Array.replicate ops.size false).getD j false = false := fun j => by
      by_cases hj : j < ops.size <;> simp [hj]
    have eg : ∀ b, gD σs (fun j => (Array.replicate ops.size false).getD j false) ops.size b = h b := fun b => by
      rw [gD_eq2 b 0 ops.size (by omega) fun j _ _ hd => by rw [hD j] at hd; cases hd]; simp only [gD]; rw [s1]
    have et : ∀ y, tD σs (fun i => (x i).1) (fun j => (Array.replicate ops.size false).getD j false) ops.size y = t y := fun y => by
      rw [tD_eq2 y 0 ops.size (by omega) fun j _ _ hd => by rw [hD j] at hd; cases hd]; simp only [tD]; rw [s1]
    have ex : xD σs (fun i => cs.getD i .W) (fun j => (Array.replicate ops.size false).getD j false) ops.size = n + ops.size := by
      rw [xD_eq2 0 ops.size (by omega) fun j _ _ hd => by rw [hD j] at hd; cases hd]; simp only [xD]; rw [s1]
    have hg : gD σs (fun j => (Array.replicate ops.size false).getD j false) ops.size = h := funext eg
    refine ⟨(fun j _ hd => absurd ((hD j).symm.trans hd) (by simp)), (fun k _ hd => absurd ((hD k).symm.trans hd) (by simp)), S, m, he, fun _ h => h, fun _ h => .inl h, fun _ _ h => h, fun _ _ => rfl, fun i _ _ => p4 _ (by omega),
      fun b hb => p4 b (by rw [ex] at hb; omega), ⟨p3.1, fun y => by rw [et]; exact (p3.2 y).mono (he.mono fun k hk => .inl hk) (fun _ h => h) (fun _ _ h => h)⟩, by rw [hg]; exact p2.drew, rfl⟩
  · have : ∀ k, unl (fun j => (Array.replicate ops.size false).getD j false) k ≤ k := by
      intro k
      induction k with
      | zero => exact Nat.le_refl _
      | succ k ih => simp only [unl]; split <;> omega
    exact this _

end
end Go.Av
