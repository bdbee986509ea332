/-
  A region that draws its order, in the model. Conditions: none.
-/
import Derived.Test.YtiiogleijmcccaaA16
namespace Go.Av

theorem upds_val : ∀ (u : Upd) (h : Heap) (b : Nat), (∃ y ∈ u, y.1 = b) → ∃ y ∈ u, y.1 = b ∧ upds h u b = y.2
  | [], _, _, hx => by obtain ⟨_, h, _⟩ := hx; cases h
  | (c, o) :: u, h, b, hx => by
    by_cases hin : ∃ y ∈ u, y.1 = b
    · obtain ⟨y, hy, h1, h2⟩ := upds_val u (upd h c o) b hin
      exact ⟨y, by simp [hy], h1, h2⟩
    · have hno : ∀ y ∈ u, y.1 ≠ b := fun y hm e => hin ⟨y, hm, e⟩
      obtain ⟨y, hy, he⟩ := hx
      rcases List.mem_cons.1 hy with rfl | hy
      · simp only at he; subst he
        exact ⟨(c, o), by simp, rfl, by show upds (upd h c o) u c = o; rw [upds_notin u _ c hno, upd_same]⟩
      · exact absurd he (hno y hy)

theorem Rel.lessm {w : World} {S F : Nat → Prop} {m : Pm} {g g' : Heap} (h : Rel w S F m g) (hg : ∀ b o p, m b = some p → g' b = some o → g b = some o) : Rel w S F m g' :=
  ⟨fun c o p hc hm => h.content c o p (hg _ _ _ hm hc) hm, fun c d o₁ o₂ p₁ p₂ g₁ g₂ q₁ q₂ => h.disj c d o₁ o₂ p₁ p₂ (hg _ _ _ q₁ g₁) (hg _ _ _ q₂ g₂) q₁ q₂,
    fun c o p hc hm => h.apart c o p (hg _ _ _ hm hc) hm, h.inS, h.inF, h.inm⟩

section
variable {P : Program} {N : Nat} {ops : Array Oper} {n0 n : Nat} {σs : Nat → OS} {c : Nat → Cls} {o : Nat → Oper} {v : Nat → AV} {u : Nat → Upd} {D : Nat → Bool}

/-- What holds when the operations of D have come. -/
def Inv (P : Program) (N n0 n : Nat) (σs : Nat → OS) (c : Nat → Cls) (o : Nat → Oper) (u : Nat → Upd) (w0 : World) (S0 F : Nat → Prop) (m0 : Pm) (a0 : Act) (D : Nat → Bool) (a : Act) (w : World) : Prop :=
  (∀ j, j < n → D j = true → ∀ p ∈ preds (o j), D p = true) ∧ (∀ k, k < n → D k = true → c k = .F → ∀ y ∈ u k, y.1 ≠ n0 + k → ∀ i, i < n → y.1 = n0 + i → D i = true) ∧
  ∃ S m, Ext (fun k => S0 k ∨ F k) w0 w ∧ (∀ k, S0 k → S k) ∧ (∀ k, S k → S0 k ∨ w0.heap.size ≤ k) ∧ (∀ b p, m0 b = some p → m b = some p) ∧ (∀ b, b < n0 → m b = m0 b) ∧
    (∀ i, i < n → D i = false → m (n0 + i) = none) ∧ (∀ b, xD σs c D n ≤ b → m b = none) ∧ TR w S m N (tD σs o D n) a ∧ Rel w S F m (gD σs D n) ∧ a.defers = a0.defers

theorem gD_slot (H : Rec P N ops n0 n σs c o v u) {i : Nat} (X : Next H D i) (hP : c i ≠ .P)
    (hkill : ∀ k, k < n → D k = true → c k = .F → ∀ y ∈ u k, y.1 ≠ n0 + k → ∀ i, i < n → y.1 = n0 + i → D i = true) : gD σs D n (n0 + i) = none := by
  have hi := X.lt
  have e : gD σs D n (n0 + i) = gD σs D 0 (n0 + i) := by
    refine gD_eq2 (n0 + i) 0 n (by omega) fun j _ hjn hd => ?_
    by_cases hji : j < i
    · rw [H.unborn hi (j + 1) (by omega), H.unborn hi j (by omega)]
    · have hne : i ≠ j := fun e => by subst e; rw [X.no] at hd; cases hd
      by_cases hm : (σs (j + 1)).h (n0 + i) = (σs j).h (n0 + i)
      · exact hm
      exfalso
      have hcf := (X.behind j (by omega) hjn hd).2
      have hW : c j ≠ .W := fun e => by rw [e] at hcf; revert hP hcf; cases c i <;> simp [conflict]
      obtain ⟨hjP, hor⟩ := H.mod hjn hm hW
      rcases hor with hb | ⟨hF, hb0, _, y, hy, hyb, hyn⟩
      · omega
      · have := hkill j hjn hd hF y hy hyn i hi hyb
        rw [X.no] at this; cases this
  rw [e]
  exact H.fresh0 _ (by omega)

theorem Inv.step (H : Rec P N ops n0 n σs c o v u) {w0 : World} {S0 F : Nat → Prop} {m0 : Pm} {a0 a : Act} {w : World} (hI : Inv P N n0 n σs c o u w0 S0 F m0 a0 D a w) {i : Nat} (hi : i < n) (hno : D i = false)
    (hp : ∀ p ∈ preds (o i), D p = true) {Q : Exit → Act → World → Prop} {K : Act → World → Prop} (hK : ∀ a' w', Inv P N n0 n σs c o u w0 S0 F m0 a0 (more D i) a' w' → K a' w') : wpOp P ops Q i K a w := by
  obtain ⟨hcl, hkill, S, m, i1, i2, i3, i4, i5, i6, i7, i8, i9, i10⟩ := hI
  have X : Next H D i := Next.of H hcl hi hno hp
  have hop := H.op i hi
  have hxi := H.xmono i (by omega)
  refine hop.sim w S F m a (gD σs D n) i9 (fun b o' p hP hL hm hb => ?_) (fun x hx => by rw [← X.slots hx]; exact i8.2 x) (i6 i hi hno) (fun hW b hb => i7 b (by rw [X.xs hW]; exact hb)) (H.fresh i (by omega)) (by omega) Q K
    fun v' w' S' m' e1 e2 e3 e4 e5 e6 ek e7 e8 e9 => hK _ _ ?_
  · rw [X.sees hP (fun j hj hd e => by rw [e, i6 j hj hd] at hm; cases hm) hL (.inl (by rw [hb]; simp))]; exact hb
  have old : ∀ b, b < n0 + n → b ≠ n0 + i → m' b = m b := fun b hb hne => by
    by_cases hW : c i = .W
    · exact (e6 hW).1 b (by omega) hne
    · exact e5 hW b hne
  refine ⟨fun j hj hd p hpj => ?_, fun k hk hd hF y hy hyn i' hi' hyi => ?_, S', m', i1.trans e1 (fun k hk => hk.imp (i2 k) id), fun k hk => e2 k (i2 k hk), fun k hk => ?_, fun b p hb => e4 b p (i4 b p hb), fun b hb => ?_,
    fun j hj hd => ?_, fun b hb => ?_, ?_, ?_, i10 ▸ (by cases (o i).dst <;> rfl)⟩
  · by_cases hji : j = i
    · subst hji; simp [more, hp p hpj]
    · simp [more, hcl j hj (by simpa [more, hji] using hd) p hpj]
  · by_cases hki : k = i
    · subst hki
      obtain ⟨p, hm⟩ := ek (by rw [hF]; simp) y hy hyn
      cases hd' : D i' with
      | true => simp [more, hd']
      | false => rw [hyi, i6 i' hi' hd'] at hm; cases hm
    · have := hkill k hk (by simpa [more, hki] using hd) hF y hy hyn i' hi' hyi
      simp [more, this]
  · rcases e3 k hk with h | h
    · exact i3 k h
    · exact .inr (Nat.le_trans i1.size h)
  · rw [old b (by omega) (by omega), i5 b hb]
  · have hji : j ≠ i := fun e => by subst e; simp [more] at hd
    rw [old (n0 + j) (by omega) (by omega)]
    exact i6 j hj (by simpa [more, hji] using hd)
  · rw [xD_more H X] at hb
    by_cases hW : c i = .W
    · rw [if_pos hW] at hb; exact (e6 hW).2 b hb
    · rw [if_neg hW] at hb
      have := xD_ge (D := D) H n (Nat.le_refl _)
      rw [e5 hW b (by omega)]; exact i7 b hb
  · refine ⟨by have := i8.1; cases hdd : (o i).dst <;> simpa [Act.put] using this, fun x => ?_⟩
    rw [getD_put i8.1 hop.dst, tD_more H X]
    by_cases hd : (o i).dst = some x
    · rw [if_pos hd, if_pos hd]; exact e7
    · rw [if_neg hd, if_neg hd]; exact (i8.2 x).mono (e1.mono fun k hk => .inl hk) e2 e4
  · -- the memory
    have slot : ∀ b p, m' b = some p → b ≠ n0 + i → ∀ j, j < n → D j = false → b ≠ n0 + j := fun b p hm hne j hj hd e => by
      subst e
      rw [old _ (by omega) hne, i6 j hj hd] at hm; cases hm
    have key : ∀ b o' p, m' b = some p → gD σs (more D i) n b = some o' → (if c i = .W then (σs (i + 1)).h else upds (gD σs D n) (u i)) b = some o' := by
      intro b o' p hm hb
      by_cases hmod : (σs (i + 1)).h b = (σs i).h b
      · rw [gD_more_ne hmod] at hb
        by_cases hW : c i = .W
        · rw [if_pos hW, hmod]
          by_cases hbs : b = n0 + i
          · subst hbs
            rw [gD_slot H X (by rw [hW]; simp) hkill] at hb; cases hb
          · rw [← X.sees (by rw [hW]; simp) (slot b p hm hbs) (fun h => by rw [hW] at h; cases h) (.inr hW)]; exact hb
        · rw [if_neg hW]
          obtain ⟨_, h2, h3⟩ := hop.quiet hW
          rw [upds_notin]
          · exact hb
          · intro y hy he
            obtain ⟨y, hy, he, hval⟩ := upds_val (u i) (σs i).h b ⟨y, hy, he⟩
            rw [← h2, hmod] at hval
            rcases h3 y hy with ⟨k1, k2⟩ | ⟨_, _, k3, k4⟩
            · rw [← hval, ← he, k1, H.unborn hi i (Nat.le_refl _)] at k2; exact k2 rfl
            · rw [he, hval, k3] at k4; exact k4 rfl
      · have hgm : gD σs (more D i) n b = (σs (i + 1)).h b := by
          refine gD_more hi hmod fun j hij hjn hd => ?_
          by_cases hm2 : (σs (j + 1)).h b = (σs j).h b
          · exact hm2
          exfalso
          have hcf := (X.behind j hij hjn hd).2
          have hPi : c i ≠ .P := fun e => by
            have hq := hop.quiet (by rw [e]; simp)
            rw [hop.pure e] at hq
            exact hmod (by rw [hq.2.1]; rfl)
          have hWj : c j ≠ .W := fun e => by rw [e] at hcf; revert hPi hcf; cases c i <;> simp [conflict]
          obtain ⟨hjP, horj⟩ := H.mod hjn hm2 hWj
          have hWi : c i ≠ .W := fun e => by rw [e] at hcf; revert hjP hcf; cases c j <;> simp [conflict]
          obtain ⟨_, hori⟩ := H.mod hi hmod hWi
          rcases hori with hbi | ⟨hFi, _, hni, _⟩
          · rcases horj with hbj | ⟨hFj, _, _, y, hy, hyb, hyn⟩
            · omega
            · have := hkill j hjn hd hFj y hy hyn i hi (by rw [hyb, hbi])
              rw [hno] at this; cases this
          · rcases horj with hbj | ⟨hFj, _⟩
            · rw [hbj, H.unborn hjn i (by omega)] at hni; exact hni rfl
            · rw [hFi, hFj] at hcf; simp [conflict] at hcf
        rw [hgm] at hb
        by_cases hW : c i = .W
        · rw [if_pos hW]; exact hb
        · rw [if_neg hW]
          obtain ⟨_, h2, _⟩ := hop.quiet hW
          have hin : ∃ y ∈ u i, y.1 = b := by
            by_cases hh : ∃ y ∈ u i, y.1 = b
            · exact hh
            · exact absurd (by rw [h2, upds_notin _ _ _ fun y hy e => hh ⟨y, hy, e⟩]) hmod
          rw [upds_in (u i) _ (σs i).h b hin, ← h2]; exact hb
    by_cases hW : c i = .W
    · refine (e9 hW).lessm fun b o' p hm hb => ?_
      have := key b o' p hm hb
      rwa [if_pos hW] at this
    · refine (e8 hW).lessm fun b o' p hm hb => ?_
      have := key b o' p hm hb
      rwa [if_neg hW] at this

/-- How many are still to come. -/
def unl (D : Nat → Bool) : Nat → Nat
  | 0 => 0
  | k + 1 => unl D k + if D k then 0 else 1

theorem unl_more {i : Nat} (hi : D i = false) : ∀ k, unl (more D i) k + (if i < k then 1 else 0) = unl D k
  | 0 => rfl
  | k + 1 => by
    have ih := unl_more hi k
    simp only [unl]
    by_cases hk : k = i
    · subst hk
      have : ¬ (k < k) := Nat.lt_irrefl _
      rw [if_neg this] at ih
      simp [more, hi]; omega
    · have h1 : more D i k = D k := by simp [more, hk]
      rw [h1]
      by_cases h2 : i < k
      · have e : (if i < k + 1 then 1 else 0) = 1 := if_pos (by omega)
        rw [if_pos h2] at ih; rw [e]; omega
      · have e : (if i < k + 1 then 1 else 0) = 0 := if_neg (by omega)
        rw [if_neg h2] at ih; rw [e]; omega

theorem unl_zero : ∀ k, unl D k = 0 → ∀ j, j < k → D j = true
  | 0, _, j, h => by omega
  | k + 1, h, j, hj => by
    simp only [unl] at h
    by_cases hjk : j = k
    · subst hjk; cases hd : D j <;> simp [hd] at h ⊢
    · exact unl_zero k (by omega) j (by omega)

theorem draw_any (H : Rec P N ops n0 n σs c o v u) {w0 : World} {S0 F : Nat → Prop} {m0 : Pm} {a0 : Act} {Q : Exit → Act → World → Prop}
    (hQ : ∀ D a w, (∀ j, j < n → D j = true) → Inv P N n0 n σs c o u w0 S0 F m0 a0 D a w → Q .normal a w) :
    ∀ (fuel : Nat) (listed : Array Bool) (a : Act) (w : World), listed.size = n → Inv P N n0 n σs c o u w0 S0 F m0 a0 (fun j => listed.getD j false) a w → unl (fun j => listed.getD j false) n ≤ fuel →
      wpAny P .any ops Q fuel listed a w := by
  have rdy : ∀ (listed : Array Bool) (i : Nat), listed.size = n → i ∈ Region.ready .any ops listed → i < n ∧ listed.getD i false = false ∧ ∀ p ∈ preds (o i), listed.getD p false = true := by
    intro listed i hs hi
    obtain ⟨h1, oi, h2, h3⟩ := mem_ready.1 hi
    have hin : i < n := by rw [← H.size]; exact (Array.getElem?_eq_some_iff.1 h2).1
    have ho : oi = o i := by have := (H.op i hin).op; rw [h2] at this; exact Option.some.inj this
    subst ho
    refine ⟨hin, ?_, fun p hp => ?_⟩
    · have : i < listed.size := by omega
      simp [this] at h1 ⊢; exact h1
    · unfold preds at hp
      rw [List.mem_filterMap] at hp
      obtain ⟨e, he, hb⟩ := hp
      split at hb
      · rename_i hbind
        simp only [Option.some.injEq] at hb; subst hb
        exact h3 e (by simpa using he) hbind
      · cases hb
  have all : ∀ (listed : Array Bool), listed.size = n → Region.ready .any ops listed = [] → ∀ j, j < n → listed.getD j false = true := by
    intro listed hs hr j
    induction j using Nat.strongRecOn with
    | _ j ih =>
      intro hj
      cases hd : listed.getD j false with
      | true => rfl
      | false =>
        exfalso
        have : j ∈ Region.ready .any ops listed := by
          rw [mem_ready]
          have hlt : j < listed.size := by omega
          refine ⟨by simp [hlt] at hd ⊢; exact hd, o j, (H.op j hj).op, fun e he hb => ?_⟩
          have hp : e.on ∈ preds (o j) := by
            unfold preds; rw [List.mem_filterMap]
            exact ⟨e, by simpa using he, by rw [if_pos hb]⟩
          have := H.preds j hj _ hp
          exact ih e.on this (by omega)
        rw [hr] at this; cases this
  intro fuel
  induction fuel with
  | zero =>
    intro listed a w hs hI hu
    have ha := unl_zero n (by omega : unl (fun j => listed.getD j false) n = 0)
    refine ⟨?_, hQ _ a w ha hI⟩
    cases hr : Region.ready .any ops listed with
    | nil => rfl
    | cons i l =>
      obtain ⟨h1, h2, _⟩ := rdy listed i hs (by rw [hr]; simp)
      have := ha i h1
      rw [h2] at this; cases this
  | succ fuel ih =>
    intro listed a w hs hI hu
    refine ⟨fun hr => hQ _ a w (all listed hs hr) hI, fun i hi => ?_⟩
    obtain ⟨h1, h2, h3⟩ := rdy listed i hs hi
    refine hI.step H h1 h2 h3 fun a' w' hI' => ?_
    have hD : (fun j => (listed.setIfInBounds i true).getD j false) = more (fun j => listed.getD j false) i := by
      funext j
      by_cases hji : j = i
      · subst hji
        have : j < listed.size := by omega
        simp [more, this]
      · have := getD_set_ne (listed := listed) false (Ne.symm hji)
        rw [this]; simp [more, hji]
    refine ih _ a' w' (by simpa using hs) (by rw [hD]; exact hI') ?_
    rw [hD]
    have := unl_more (D := fun j => listed.getD j false) h2 n
    rw [if_pos h1] at this
    omega

end
end Go.Av
