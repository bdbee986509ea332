/-
  What is shown of a run: statements; one operation, calls among them. Conditions: none.
-/
import Derived.Test.YtiiogleijmcccaaA13
namespace Go.Av

/-- How the model's end fits. -/
def ExR : AEx → Exit → Prop
  | .normal, .normal => True
  | .exit i, .exit j => i = j
  | .goto i, .goto j => i = j
  | .ret, .ret => True
  | _, _ => False

/-- From one world to a later one. -/
structure St (w : World) (S F : Nat → Prop) (m : Pm) (n : Nat) (w' : World) (S' : Nat → Prop) (m' : Pm) (n' : Nat) : Prop where
  ext : Ext (fun k => S k ∨ F k) w w'
  grow : ∀ k, S k → S' k
  new : ∀ k, S' k → S k ∨ w.heap.size ≤ k
  le : ∀ b p, m b = some p → m' b = some p
  old : ∀ b, b < n → m' b = m b
  free : ∀ b, n' ≤ b → m' b = none

def FnIn (P : Program) (f : FuncId) : Prop := ∃ fn, P.funcs[f]? = some fn ∧ fn.body.isSome = true ∧ fn.name ≠ "runtime.NumGoroutine"

def FnS (P : Program) (f : FuncId) (args : List AV) (h : Heap) (n : Nat) (res : AV) (h' : Heap) (n' : Nat) : Prop :=
  (n ≤ n' ∧ (∀ b, b < n → h b = none → h' b = none) ∧ ((∀ b, n ≤ b → h b = none) → ∀ b, n' ≤ b → h' b = none)) ∧ FnIn P f ∧ ∀ (w : World) (S F : Nat → Prop) (m : Pm) (vs : List Value), (∀ b, n ≤ b → h b = none) → Rel w S F m h → LR w S m args vs → (∀ b, n ≤ b → m b = none) →
    Calls P f vs.toArray w fun e w' => ∃ v S' m', e = .returned v ∧ St w S F m n w' S' m' n' ∧ VR w' S' m' res v ∧ Rel w' S' F m' h'

/-- May the heap be changed so by an operation of this class? -/
def updOK (c : Cls) (n0 s : Nat) (h : Heap) (u : Upd) : Prop := ∀ x ∈ u, (x.1 = s ∧ x.2 ≠ none) ∨ (c = .F ∧ n0 ≤ x.1 ∧ x.2 = none ∧ h x.1 ≠ none)

structure OpS1 (P : Program) (N : Nat) (ops : Array Oper) (n0 i : Nat) (σ : OS) (c : Cls) (σ' : OS) (o : Oper) (v : AV) (u : Upd) : Prop where
  op : ops[i]? = some o
  dst : inN N o.dst = true
  t : σ'.t = put σ.t o.dst v
  x : σ.x ≤ σ'.x
  quiet : c ≠ .W → σ'.x = σ.x ∧ σ'.h = upds σ.h u ∧ updOK c n0 (n0 + i) σ.h u
  pure : c = .P → u = []
  res : ∀ b, b ≠ n0 + i → b < σ.x → σ.h b = none → σ'.h b = none
  free : (∀ b, σ.x ≤ b → σ.h b = none) → n0 + i < σ.x → ∀ b, σ'.x ≤ b → σ'.h b = none
  sim : ∀ (w : World) (S F : Nat → Prop) (m : Pm) (a : Act) (g : Heap), Rel w S F m g → (∀ b o p, c ≠ .P → (c = .L → b < n0) → m b = some p → σ.h b = some o → g b = some o) →
      (∀ x, x ∈ o.looksAt ops → VR w S m (σ.t x) (a.tmps.getD x undef)) → m (n0 + i) = none → (c = .W → ∀ b, σ.x ≤ b → m b = none) → (∀ b, σ.x ≤ b → σ.h b = none) → n0 + i < σ.x →
      ∀ (Q : Exit → Act → World → Prop) (K : Act → World → Prop),
        (∀ v' w' S' m', Ext (fun k => S k ∨ F k) w w' → (∀ k, S k → S' k) → (∀ k, S' k → S k ∨ w.heap.size ≤ k) → (∀ b p, m b = some p → m' b = some p) →
          (c ≠ .W → ∀ b, b ≠ n0 + i → m' b = m b) → (c = .W → (∀ b, b < σ.x → b ≠ n0 + i → m' b = m b) ∧ ∀ b, σ'.x ≤ b → m' b = none) → (c ≠ .W → ∀ x ∈ u, x.1 ≠ n0 + i → ∃ p, m x.1 = some p) →
          VR w' S' m' v v' → (c ≠ .W → Rel w' S' F m' (upds g u)) → (c = .W → Rel w' S' F m' σ'.h) → K (a.put o.dst v') w') → wpOp P ops Q i K a w

def OpS (P : Program) (N : Nat) (ops : Array Oper) (n0 i : Nat) (σ : OS) (c : Cls) (σ' : OS) : Prop := ∃ o v u, OpS1 P N ops n0 i σ c σ' o v u

theorem upds_notin : ∀ (u : Upd) (h : Heap) (b : Nat), (∀ x ∈ u, x.1 ≠ b) → upds h u b = h b
  | [], _, _, _ => rfl
  | (c, o) :: u, h, b, hx => by
    have h1 := hx (c, o) (by simp)
    show upds (upd h c o) u b = h b
    rw [upds_notin u _ b (fun x hm => hx x (by simp [hm])), upd_ne (Ne.symm h1)]

theorem upds_in : ∀ (u : Upd) (h h' : Heap) (b : Nat), (∃ x ∈ u, x.1 = b) → upds h u b = upds h' u b
  | [], _, _, _, hx => by obtain ⟨_, h, _⟩ := hx; cases h
  | (c, o) :: u, h, h', b, hx => by
    show upds (upd h c o) u b = upds (upd h' c o) u b
    by_cases hin : ∃ x ∈ u, x.1 = b
    · exact upds_in u _ _ b hin
    · have hno : ∀ x ∈ u, x.1 ≠ b := fun x hm e => hin ⟨x, hm, e⟩
      rw [upds_notin u _ b hno, upds_notin u _ b hno]
      obtain ⟨y, hy, he⟩ := hx
      rcases List.mem_cons.1 hy with rfl | hy
      · simp only at he; subst he; rw [upd_same, upd_same]
      · exact absurd he (hno y hy)

section
variable {P : Program} {w : World} {S F : Nat → Prop} {m : Pm} {g : Heap} {Θ : Tab}

theorem gd_wanted {ops : Array Oper} {t : Fr} {o : Oper} {a : Act} {r : Bool} (h : gd ops t o = some r) (ht : ∀ x, x ∈ o.looksAt ops → VR w S m (t x) (a.tmps.getD x undef)) :
    Region.wanted o (yielded ops a.tmps) = r := by
  unfold gd at h
  unfold Region.wanted
  split at h
  · rename_i hg; simp only [Option.some.injEq] at h; subst h; rw [hg]
  · rename_i gg want hg
    rw [hg]
    simp only
    unfold yielded
    split at h
    · rename_i d hd
      have hv := ht d (by simp [Oper.looksAt, hg, hd])
      have hgd : (a.tmps[d]?).getD undef = a.tmps.getD d undef := by simp
      simp only [hd, Option.bind_some]
      split at h
      · rename_i b hb
        simp only [Option.some.injEq] at h; subst h
        rw [hb] at hv
        generalize hx : a.tmps.getD d undef = x at hv hgd
        cases hv
        cases hq : a.tmps[d]? with
        | none => rw [hq] at hgd; cases hgd
        | some y => rw [hq] at hgd; simp at hgd; subst hgd; simp
      · rename_i hb
        simp only [Option.some.injEq] at h; subst h
        rw [hb] at hv
        generalize hx : a.tmps.getD d undef = x at hv hgd
        cases hv
        cases hq : a.tmps[d]? with
        | none => simp
        | some y => rw [hq] at hgd; simp at hgd; subst hgd; simp
      · cases h
    · rename_i hd
      simp only [Option.some.injEq] at h; subst h
      simp [hd]

theorem rdCls_cases (n0 : Nat) (a : AV) : rdCls n0 a = .L ∨ rdCls n0 a = .Q := by unfold rdCls; split <;> simp

/-- What is known of a change. -/
def UO (K : Nat → Prop) (c : Cls) (n0 s : Nat) (h : Heap) (u : Upd) : Prop :=
  (c ≠ .W → updOK c n0 s h u) ∧ (c = .P → u = []) ∧ (∀ x ∈ u, x.1 = s ∨ h x.1 ≠ none) ∧ ∀ x ∈ u, x.1 = s ∨ K x.1

theorem P1_upd {v' : Option AV} {c : Cls} {v : AV} {u : Upd} {n0 s : Nat} {h : Heap} {K : Nat → Prop} (ha : P1 v' = some (c, v, u)) : UO K c n0 s h u := by
  obtain ⟨_, _, rfl⟩ := P1_inv ha
  exact ⟨(fun _ x hx => by cases hx), (fun _ => rfl), (fun x hx => by cases hx), (fun x hx => by cases hx)⟩

theorem one_upd {c : Cls} {n0 s : Nat} {o : AO} {h : Heap} {K : Nat → Prop} (hc : c ≠ .P) : UO K c n0 s h [(s, some o)] :=
  ⟨fun _ x hx => (by simp at hx; subst hx; exact .inl ⟨rfl, by simp⟩), fun h => absurd h hc, fun x hx => (by simp at hx; subst hx; exact .inl rfl), fun x hx => (by simp at hx; subst hx; exact .inl rfl)⟩

theorem nil_upd {c : Cls} {n0 s : Nat} {h : Heap} {K : Nat → Prop} : UO K c n0 s h [] := ⟨(fun _ x hx => by cases hx), (fun _ => rfl), (fun x hx => by cases hx), (fun x hx => by cases hx)⟩

theorem evs_mem {t : Fr} : ∀ {os : List Operand} {as : List AV}, evs t os = some as → ∀ x ∈ as, ∃ z ∈ os, ev t z = some x
  | [], as, h, x, hx => by simp [evs] at h; subst h; cases hx
  | o :: os, as, h, x, hx => by
    simp only [evs] at h
    split at h
    · rename_i a1 as' h1 h2
      simp only [Option.some.injEq] at h; subst h
      rcases List.mem_cons.1 hx with rfl | hx
      · exact ⟨o, by simp, h1⟩
      · obtain ⟨z, hz, he⟩ := evs_mem h2 x hx
        exact ⟨z, by simp [hz], he⟩
    · cases h

/-- An operand that leads to a live block. -/
def Leads (op : Op) (t : Fr) (b : Nat) : Prop := ∃ z ∈ op.operands, ∃ x, ev t z = some x ∧ ((∃ off len sz, x = .sl b off len sz) ∨ ∃ i off, x = .ptr b i off)

theorem leads_arg {cl : Call} {t : Fr} {b off len sz : Nat} {y : AV} {bt : Builtin} (hc : cl.callee = .builtin bt) (h : evs t cl.args.toList = some [.sl b off len sz, y]) : Leads (.call cl) t b := by
  obtain ⟨z, hz, he⟩ := evs_mem h (.sl b off len sz) (by simp)
  exact ⟨z, by simp only [Op.operands, Call.operands, Array.mem_append]; exact .inr (by simpa using hz), _, he, .inl ⟨_, _, _, rfl⟩⟩

theorem append_upd {ti : TI} {h : Heap} {n0 s : Nat} {x y v : AV} {c : Cls} {u : Upd} {K : Nat → Prop} (ha : aAppend ti h n0 s x y = some (c, v, u)) (hK : ∀ b off len sz, x = .sl b off len sz → K b) : UO K c n0 s h u := by
  unfold aAppend at ha
  split at ha
  · split at ha
    · split at ha
      · split at ha
        · split at ha
          · simp only [Option.some.injEq, Prod.mk.injEq] at ha; obtain ⟨rfl, _, rfl⟩ := ha; exact nil_upd
          · split at ha
            · simp only [Option.some.injEq, Prod.mk.injEq] at ha; obtain ⟨rfl, _, rfl⟩ := ha
              exact one_upd (by rcases rdCls_cases n0 y with h | h <;> rw [h] <;> simp)
            · cases ha
        · rename_i b off len sz
          split at ha
          · rename_i es hb
            split at ha
            · split at ha
              · simp only [Option.some.injEq, Prod.mk.injEq] at ha; obtain ⟨rfl, _, rfl⟩ := ha
                exact ⟨fun h => absurd rfl h, (fun h => by cases h), (fun x hx => by simp at hx; subst hx; exact .inr (by simp [hb])), (fun x hx => by simp at hx; subst hx; exact .inr (hK b off len sz rfl))⟩
              · split at ha
                · simp only [Option.some.injEq, Prod.mk.injEq] at ha; obtain ⟨rfl, _, rfl⟩ := ha
                  refine ⟨fun hW x hx => ?_, fun h => ?_, (fun x hx => ?_), (fun x hx => ?_)⟩
                  · by_cases hn : n0 ≤ b
                    · simp at hx
                      rcases hx with rfl | rfl
                      · exact .inr ⟨by simp [hn], hn, rfl, by simp [hb]⟩
                      · exact .inl ⟨rfl, by simp⟩
                    · simp [hn] at hW
                  · split at h <;> cases h
                  · simp at hx
                    rcases hx with rfl | rfl
                    · exact .inr (by simp [hb])
                    · exact .inl rfl
                  · simp at hx
                    rcases hx with rfl | rfl
                    · exact .inr (hK b off len sz rfl)
                    · exact .inl rfl
                · cases ha
            · cases ha
          · cases ha
        · cases ha
      · cases ha
    · cases ha
  · cases ha

theorem VR.ptr_inv {b i off : Nat} {x : Value} (h : VR w S m (.ptr b i off) x) : ∃ p, m b = some p := by
  generalize hav : AV.ptr b i off = av at h
  cases h <;> simp only [reduceCtorEq, AV.ptr.injEq] at hav
  obtain ⟨rfl, _⟩ := hav
  exact ⟨_, ‹_›⟩

theorem aop_upd {op : Op} {t : Fr} {h : Heap} {n0 s : Nat} {c : Cls} {v : AV} {u : Upd} (ha : aop Θ op t h n0 s = some (c, v, u)) : UO (Leads op t) c n0 s h u := by
  cases op <;> simp only [aop, reduceCtorEq] at ha
  case move => exact P1_upd ha
  case assign => exact P1_upd ha
  case pick => split at ha <;> first | exact P1_upd ha | cases ha
  case nilCheck => split at ha <;> first | exact P1_upd ha | cases ha
  case binOp => split at ha <;> first | exact P1_upd ha | cases ha
  case unOp => split at ha <;> first | exact P1_upd ha | cases ha
  case convert => split at ha <;> first | exact P1_upd ha | cases ha
  case extract => split at ha <;> first | exact P1_upd ha | cases ha
  case makeFunc =>
    split at ha
    · split at ha
      · split at ha <;> first | exact P1_upd ha | cases ha
      · cases ha
    · cases ha
  case alloc =>
    split at ha
    · unfold aAlloc at ha
      split at ha
      · simp only [Option.some.injEq, Prod.mk.injEq] at ha; obtain ⟨rfl, _, rfl⟩ := ha; exact one_upd (by simp)
      · cases ha
    · cases ha
  case box =>
    split at ha
    · unfold aBox at ha
      split at ha
      · split at ha
        · simp only [Option.some.injEq, Prod.mk.injEq] at ha; obtain ⟨rfl, _, rfl⟩ := ha; exact one_upd (by simp)
        · cases ha
      · cases ha
    · cases ha
  case build =>
    split at ha
    · unfold aBuild at ha
      split at ha
      · split at ha
        · simp only [Option.some.injEq, Prod.mk.injEq] at ha; obtain ⟨rfl, _, rfl⟩ := ha; exact nil_upd
        · cases ha
      · split at ha
        · simp only [Option.some.injEq, Prod.mk.injEq] at ha; obtain ⟨rfl, _, rfl⟩ := ha; exact nil_upd
        · cases ha
      · cases ha
    · cases ha
  case buildSlice =>
    split at ha
    · unfold aBuildSlice at ha
      split at ha
      · split at ha
        · split at ha
          · simp only [Option.some.injEq, Prod.mk.injEq] at ha; obtain ⟨rfl, _, rfl⟩ := ha; exact nil_upd
          · cases ha
        · split at ha
          · split at ha
            · simp only [Option.some.injEq, Prod.mk.injEq] at ha; obtain ⟨rfl, _, rfl⟩ := ha; exact one_upd (by simp)
            · cases ha
          · cases ha
      · cases ha
    · cases ha
  case load =>
    split at ha
    · unfold aLoad at ha
      split at ha
      · split at ha
        · simp only [Option.some.injEq, Prod.mk.injEq] at ha; obtain ⟨rfl, _, rfl⟩ := ha; exact nil_upd
        · cases ha
      · cases ha
    · cases ha
  case store =>
    split at ha
    · have hW := aStore_W ha
      subst hW
      rename_i ti a1 a2 hti h1 h2
      unfold aStore at ha
      repeat' split at ha
      all_goals first
        | cases ha; done
        | (simp only [Option.some.injEq, Prod.mk.injEq] at ha
           obtain ⟨_, _, rfl⟩ := ha
           refine ⟨fun h => absurd rfl h, (fun h => by cases h), (fun x hx => ?_), (fun x hx => ?_)⟩
           · simp at hx; subst hx; exact .inr (by simp [*])
           · simp at hx; subst hx
             exact .inr ⟨_, by simp [Op.operands], _, h1, .inr ⟨_, _, rfl⟩⟩)
    · cases ha
  case makeSlice =>
    split at ha
    · unfold aMake at ha
      split at ha
      · split at ha
        · simp only [Option.some.injEq, Prod.mk.injEq] at ha; obtain ⟨rfl, _, rfl⟩ := ha; exact one_upd (by simp)
        · cases ha
      · cases ha
    · cases ha
  case slice =>
    split at ha
    · split at ha
      · unfold aSlice at ha
        repeat' split at ha
        all_goals first | (simp only [Option.some.injEq, Prod.mk.injEq] at ha; obtain ⟨rfl, _, rfl⟩ := ha; exact nil_upd) | cases ha
      · cases ha
    · cases ha
  case fieldAddr =>
    split at ha
    · unfold aField at ha
      repeat' split at ha
      all_goals first | (simp only [Option.some.injEq, Prod.mk.injEq] at ha; obtain ⟨rfl, _, rfl⟩ := ha; exact nil_upd) | cases ha
    · cases ha
  case field =>
    split at ha
    · unfold aFieldV at ha
      repeat' split at ha
      all_goals first | (simp only [Option.some.injEq, Prod.mk.injEq] at ha; obtain ⟨rfl, _, rfl⟩ := ha; exact nil_upd) | cases ha
    · cases ha
  case indexAddr =>
    split at ha
    · unfold aIndexAddr at ha
      repeat' split at ha
      all_goals first | (simp only [Option.some.injEq, Prod.mk.injEq] at ha; obtain ⟨rfl, _, rfl⟩ := ha; exact nil_upd) | cases ha
    · cases ha
  case index =>
    split at ha
    · unfold aIndex at ha
      repeat' split at ha
      all_goals first | (simp only [Option.some.injEq, Prod.mk.injEq] at ha; obtain ⟨rfl, _, rfl⟩ := ha; exact nil_upd) | cases ha
    · cases ha
  case call c =>
    split at ha
    · split at ha
      · unfold aBuiltin at ha
        split at ha
        · split at ha
          · split at ha
            · unfold aLen at ha
              repeat' split at ha
              all_goals first | (simp only [Option.some.injEq, Prod.mk.injEq] at ha; obtain ⟨rfl, _, rfl⟩ := ha; exact nil_upd) | cases ha
            · cases ha
          · cases ha
        · split at ha
          · split at ha
            · exact append_upd ha fun b off len sz hx => by subst hx; exact leads_arg ‹_› ‹_›
            · cases ha
          · cases ha
        · exact P1_upd ha
        · cases ha
      · cases ha
    · cases ha

theorem mem_looksAt {ops : Array Oper} {o : Oper} {x : Nat} (h : Operand.tmp x ∈ o.op.operands) : x ∈ o.looksAt ops :=
  List.mem_append_left _ (List.mem_filterMap.2 ⟨.tmp x, by simpa using h, rfl⟩)

theorem EV.looks {ops : Array Oper} {o : Oper} {t : Fr} {a : Act} (h : ∀ x, x ∈ o.looksAt ops → VR w S m (t x) (a.tmps.getD x undef)) : ∀ x ∈ o.op.operands, EV w S m t a x := by
  intro x hx
  refine EV.of fun i hi => ?_
  subst hi
  exact h i (mem_looksAt hx)

theorem wpOp_of {ops : Array Oper} {i : Nat} {o : Oper} {a : Act} {Q : Exit → Act → World → Prop} {K : Act → World → Prop} (ho : ops[i]? = some o) (hw : Region.wanted o (yielded ops a.tmps) = true)
    (h : o.upon P a K Q ((execOp a.eval o).run P w)) : wpOp P ops Q i K a w := by
  unfold wpOp
  simp only [ho, hw, if_true]
  exact .inl h

/-- What is given up stood for something. -/
theorem aop_kill {op : Op} {t : Fr} {a : Act} {h : Heap} {n0 s : Nat} {c : Cls} {v : AV} {u : Upd} (ha : aop Θ op t h n0 s = some (c, v, u)) (hev : ∀ x ∈ op.operands, EV w S m t a x) :
    ∀ y ∈ u, y.1 ≠ s → ∃ p, m y.1 = some p := by
  intro y hy hne
  obtain ⟨_, _, _, h4⟩ := aop_upd ha
  obtain ⟨z, hz, x, hx, hor⟩ := (h4 y hy).resolve_left hne
  have hv := hev z hz _ hx
  rcases hor with ⟨off, len, sz, rfl⟩ | ⟨i, off, rfl⟩
  · exact hv.sl_inv
  · exact hv.ptr_inv

theorem op_skip {N : Nat} {ops : Array Oper} {n0 i : Nat} {t : Fr} {h : Heap} {x : Nat} {o : Oper} (ho : ops[i]? = some o) (hg : gd ops t o = some false) (hd : inN N o.dst = true) :
    OpS P N ops n0 i ⟨t, h, x⟩ .P ⟨put t o.dst (.tup []), h, x⟩ := by
  refine ⟨o, .tup [], [], ho, hd, rfl, Nat.le_refl _, fun _ => ⟨rfl, rfl, fun _ h => by cases h⟩, fun _ => rfl, fun _ _ _ h => h, fun h _ => h, fun w S F m a g hr _ hl hs hx hfr hlt Q K hK => ?_⟩
  have hw := gd_wanted hg hl
  unfold wpOp
  simp only [ho, hw, Bool.false_eq_true, if_false]
  exact hK undef w S m (Ext.refl _ _) (fun _ h => h) (fun _ h => .inl h) (fun _ _ h => h) (fun _ _ _ => rfl) (fun h => by cases h) (fun _ _ h => by cases h) (.tup [] [] rfl (fun i c v h => by simp at h)) (fun _ => hr) (fun h => by cases h)

theorem op_plain (hT : TabOK P Θ) {N : Nat} {ops : Array Oper} {n0 i : Nat} {t : Fr} {h : Heap} {x : Nat} {o : Oper} {c : Cls} {v : AV} {u : Upd} (ho : ops[i]? = some o) (hg : gd ops t o = some true) (hd : inN N o.dst = true)
    (hop : aop Θ o.op t h n0 (n0 + i) = some (c, v, u)) : OpS P N ops n0 i ⟨t, h, x⟩ c ⟨put t o.dst v, upds h u, x⟩ := by
  obtain ⟨hu1, hu2, hu3, _⟩ := aop_upd hop
  have hres : ∀ b, b ≠ n0 + i → h b = none → upds h u b = none := fun b hb hh => by
    rw [upds_notin u h b fun y hy e => by
      rcases hu3 y hy with h1 | h1
      · exact hb (e ▸ h1)
      · exact h1 (e ▸ hh)]
    exact hh
  refine ⟨o, v, u, ho, hd, rfl, Nat.le_refl _, fun hc => ⟨rfl, rfl, hu1 hc⟩, hu2, fun b hb _ hh => hres b hb hh, fun hf hlt b hb => hres b (by simp only at hb hlt; omega) (hf b hb), fun w S F m a g hr hag hl hs hx hfr hlt Q K hK => ?_⟩
  have hw := gd_wanted hg hl
  refine wpOp_of ho hw ?_
  -- for 'W' the heap is the abstract one
  by_cases hW : c = .W
  · have hr' : Rel w S F m h := by
      have hh : ∀ b o p, m b = some p → h b = some o → g b = some o := fun b o p hm hb => hag b o p (by rw [hW]; simp) (by rw [hW]; simp) hm hb
      exact ⟨fun b o p hb hm => hr.content b o p (hh b o p hm hb) hm, fun b₁ b₂ o₁ o₂ p₁ p₂ g₁ g₂ q₁ q₂ => hr.disj b₁ b₂ o₁ o₂ p₁ p₂ (hh _ _ _ q₁ g₁) (hh _ _ _ q₂ g₂) q₁ q₂,
        fun b o p hb hm => hr.apart b o p (hh b o p hm hb) hm, hr.inS, hr.inF, hr.inm⟩
    obtain ⟨v', w', m', h1, h2, h3, h4, h5, h6⟩ := aop_sound (a := a) hT hop (EV.looks hl) (fun b o p _ _ _ hb => hb) hs hr'
    have done : K (a.put o.dst v') w' := hK v' w' S m' h2 (fun _ h => h) (fun _ h => .inl h) h3 (fun hc => absurd hW hc) (fun _ => ⟨fun b _ hb => h4 b hb, fun b hb => by
      have : b ≠ n0 + i := by simp only at hb hlt; omega
      rw [h4 b this]; exact hx hW b hb⟩) (fun hc => absurd hW hc) h5 (fun hc => absurd hW hc) (fun _ => h6)
    rcases h1 with h1 | ⟨h1, rfl⟩ <;> rw [h1] <;> exact done
  · obtain ⟨v', w', m', h1, h2, h3, h4, h5, h6⟩ := aop_sound (a := a) hT hop (EV.looks hl) hag hs hr
    have done : K (a.put o.dst v') w' := hK v' w' S m' h2 (fun _ h => h) (fun _ h => .inl h) h3 (fun _ b hb => h4 b hb) (fun hc => absurd hc hW) (fun _ y hy hne => aop_kill hop (EV.looks hl) y hy hne) h5 (fun _ => h6) (fun hc => absurd hc hW)
    rcases h1 with h1 | ⟨h1, rfl⟩ <;> rw [h1] <;> exact done

/-- A call of a function value, up to its entry. -/
theorem call_enter {o : Oper} {t : Fr} {a : Act} {cl : Call} {f : Operand} {k : FuncId} {caps as : List AV} (hk : FnIn P k) (hop : o.op = .call cl) (hc : cl.callee = .value f) (hf : ev t f = some (.fn k caps)) (ha : evs t cl.args.toList = some as)
    (hev : ∀ x ∈ o.op.operands, EV w S m t a x) : ∃ vs, LR w S m (as ++ caps) vs ∧ (execOp a.eval o).run P w = .ok (.enter k vs.toArray) w := by
  obtain ⟨fn, hfn, hb, hn⟩ := hk
  have hops : o.op.operands = #[f] ++ cl.args := by rw [hop]; simp [Op.operands, Call.operands, hc]
  have hL := evs_ok (w := w) (S := S) (m := m) (a := a) (fun x hx => hev x (by rw [hops]; simp; exact .inr (by simpa using hx))) ha
  have hF := hev f (by rw [hops]; simp) _ hf
  generalize hfv : a.eval f = fv at hF
  cases hF with
  | fn _ _ vs hl hr =>
  refine ⟨cl.args.toList.map a.eval ++ vs, hL.append ⟨hl, hr⟩, ?_⟩
  have hargs : cl.args.map a.eval ++ (⟨vs⟩ : Array Value) = (cl.args.toList.map a.eval ++ vs).toArray := by apply Array.ext'; simp
  have hb' : fn.body.isNone = false := by cases hbb : fn.body <;> simp_all
  have hn' : (fn.name == "runtime.NumGoroutine") = false := by simpa using hn
  obtain ⟨dst, op, type, pos, after, guard⟩ := o
  simp only at hop
  subst hop
  simp only [execOp, resolve, hc, hfv, Deferred.ofValue, Sem.run_bind, Sem.run_pure, Result.andThen_ok, invoke, callFunc, program, Sem.run, hfn, hn', hb', Bool.false_eq_true, if_false]
  simp [hargs]

theorem op_callH {N : Nat} {ops : Array Oper} {n0 i : Nat} {t : Fr} {h : Heap} {x : Nat} {o : Oper} {cl : Call} {f : Operand} {k : FuncId} {caps as : List AV} {res : AV} {h' : Heap} {x' : Nat}
    (ho : ops[i]? = some o) (hg : gd ops t o = some true) (hd : inN N o.dst = true) (hop : o.op = .call cl) (hc : cl.callee = .value f) (hf : ev t f = some (.fn k caps)) (ha : evs t cl.args.toList = some as)
    (hb : FnS P k (as ++ caps) h x res h' x') : OpS P N ops n0 i ⟨t, h, x⟩ .W ⟨put t o.dst res, h', x'⟩ := by
  obtain ⟨⟨hx', hres, hfree⟩, hk, hb⟩ := hb
  refine ⟨o, res, [], ho, hd, rfl, hx', fun hc => absurd rfl hc, (fun hc => by cases hc), fun b _ hb hh => hres b hb hh, fun hf _ b hb => hfree hf b hb, fun w S F m a g hr hag hl hs hx hfr hlt Q K hK => ?_⟩
  refine wpOp_of ho (gd_wanted hg hl) ?_
  obtain ⟨vs, hL, hrun⟩ := call_enter (P := P) hk hop hc hf ha (EV.looks hl)
  have hh : ∀ b o p, m b = some p → h b = some o → g b = some o := fun b o p hm hb => hag b o p (by simp) (by simp) hm hb
  have hr' : Rel w S F m h :=
    ⟨fun b o p hb hm => hr.content b o p (hh b o p hm hb) hm, fun b₁ b₂ o₁ o₂ p₁ p₂ g₁ g₂ q₁ q₂ => hr.disj b₁ b₂ o₁ o₂ p₁ p₂ (hh _ _ _ q₁ g₁) (hh _ _ _ q₂ g₂) q₁ q₂,
      fun b o p hb hm => hr.apart b o p (hh b o p hm hb) hm, hr.inS, hr.inF, hr.inm⟩
  rw [hrun, Oper.upon_enter]
  refine (hb w S F m vs hfr hr' hL (hx rfl)).mono fun e w' he => ?_
  obtain ⟨v, S', m', rfl, hst, hv, hrel⟩ := he
  exact hK v w' S' m' hst.ext hst.grow hst.new hst.le (fun hc => absurd rfl hc) (fun _ => ⟨fun b hb _ => hst.old b hb, hst.free⟩) (fun hc => absurd rfl hc) hv (fun hc => absurd rfl hc) (fun _ => hrel)

/-- What a call with frozen arguments leaves to the caller. -/
theorem frozen_call {k : FuncId} {args args' : List AV} {vs : List Value} {h : Heap} {res : AV} {h1 : Heap} {x1 d : Nat} (live : Bool) (hr : Rel w S F m g) (hL : LR w S m args vs)
    (hag : live = true → ∀ b o p, m b = some p → h b = some o → g b = some o)
    (hf : rfs true d (if live then h else h0) args = some args') (hb : FnS P k args' h0 0 res h1 x1) :
    Calls P k vs.toArray w fun e w' => ∃ v Sc mc, e = .returned v ∧ Ext (fun k => k < w.heap.size) w w' ∧ VR w' Sc mc res v ∧ Rel w' Sc (fun k => k < w.heap.size) mc h1 ∧
      (∀ k, Sc k → (live = false ∧ S k) ∨ (live = true ∧ k < w.heap.size) ∨ (w.heap.size ≤ k ∧ k < w'.heap.size)) ∧ (∀ b o p, h1 b = some o → mc b = some p → w.heap.size ≤ p.blk ∧ p.blk < w'.heap.size) := by
  obtain ⟨_, _, hb⟩ := hb
  let Sc : Nat → Prop := fun k => if live then k < w.heap.size else S k
  have hcont : ∀ b o p, (if live then h else h0) b = some o → m b = some p → CR w S m p o := by
    intro b o p hb hm
    cases live with
    | false => simp [h0] at hb
    | true => exact hr.content b o p (hag rfl b o p hm (by simpa using hb)) hm
  have hL' := (rf_all true _ hcont d).2.1 _ _ _ hf hL
  have hsub : ∀ k, SF true S (if live then h else h0) m k → Sc k := by
    intro k hk
    cases live with
    | false =>
      rcases hk with ⟨_, hk⟩ | ⟨b, o, p, hb, _⟩
      · simpa [Sc] using hk
      · simp [h0] at hb
    | true =>
      rcases hk with ⟨_, hk⟩ | ⟨b, o, p, hb, hm, rfl⟩
      · simpa [Sc] using hr.inS k hk
      · simpa [Sc] using hr.inm b p hm
  have hScs : ∀ k, Sc k → k < w.heap.size := by
    intro k hk
    cases live with
    | false => exact hr.inS k (by simpa [Sc] using hk)
    | true => simpa [Sc] using hk
  have hr0 : Rel w Sc (fun k => k < w.heap.size) (fun _ => none) h0 :=
    ⟨fun b o p hb => by simp [h0] at hb, fun b₁ b₂ o₁ o₂ p₁ p₂ hb => by simp [h0] at hb, fun b o p hb => by simp [h0] at hb, hScs, fun k hk => hk, fun b p hb => by cases hb⟩
  refine (hb w Sc (fun k => k < w.heap.size) (fun _ => none) vs (fun _ _ => rfl) hr0 (hL'.mono (Ext.refl _ _) hsub (fun _ _ h => h)) (fun _ _ => rfl)).mono fun e w' he => ?_
  obtain ⟨v, S', m', he, hst, hv, hrel⟩ := he
  refine ⟨v, S', m', he, hst.ext.mono (fun k hk => .inr hk), hv, hrel, fun k hk => ?_, fun b o p hb hm => ?_⟩
  · rcases hst.new k hk with h2 | h2
    · cases live with
      | false => exact .inl ⟨rfl, by simpa [Sc] using h2⟩
      | true => exact .inr (.inl ⟨rfl, by simpa [Sc] using h2⟩)
    · exact .inr (.inr ⟨h2, hrel.inS k hk⟩)
  · have := (hrel.apart b o p hb hm).2
    exact ⟨by omega, hrel.inm b p hm⟩

/-- The caller's memory behind such a call; X: a block that it takes over. -/
theorem Rel.behind (hr : Rel w S F m g) {w' : World} (he : Ext (fun k => k < w.heap.size) w w') (X : Nat → Prop) :
    Rel w' (fun k => S k ∨ (w.heap.size ≤ k ∧ k < w'.heap.size ∧ ¬ X k)) F m g :=
  ⟨fun b o p hb hm => (hr.content b o p hb hm).mono (he.mono hr.inS) (fun _ h => .inl h) (fun _ _ h => h) (he.same _ (hr.inm b p hm)), hr.disj,
    fun b o p hb hm => ⟨fun hk => hk.elim (hr.apart b o p hb hm).1 (fun hk => by have := hr.inm b p hm; omega), (hr.apart b o p hb hm).2⟩,
    fun k hk => hk.elim (fun h => Nat.lt_of_lt_of_le (hr.inS k h) he.size) (fun h => h.2.1), fun k hk => Nat.lt_of_lt_of_le (hr.inF k hk) he.size, fun b p hm => Nat.lt_of_lt_of_le (hr.inm b p hm) he.size⟩

theorem op_callP {N : Nat} {ops : Array Oper} {n0 i : Nat} {t : Fr} {h : Heap} {x : Nat} {o : Oper} {cl : Call} {f : Operand} {k : FuncId} {caps as as' : List AV} {res res' : AV} {h1 : Heap} {x1 d d' : Nat} (live : Bool)
    (ho : ops[i]? = some o) (hg : gd ops t o = some true) (hd : inN N o.dst = true) (hop : o.op = .call cl) (hc : cl.callee = .value f) (hf : ev t f = some (.fn k caps)) (ha : evs t cl.args.toList = some as)
    (hrf : rfs true d (if live then h else h0) (as ++ caps) = some as') (hb : FnS P k as' h0 0 res h1 x1) (hrf' : rf (!live) d' h1 res = some res') :
    OpS P N ops n0 i ⟨t, h, x⟩ (if live then .Q else .L) ⟨put t o.dst res', h, x⟩ := by
  have hk := hb.2.1
  have hnw : (if live then Cls.Q else Cls.L) ≠ .W := by cases live <;> simp
  refine ⟨o, res', [], ho, hd, rfl, Nat.le_refl _, fun _ => ⟨rfl, rfl, fun _ h => by cases h⟩, fun _ => rfl, fun _ _ _ h => h, fun h _ => h, fun w S F m a g hr hag hl hs hx hfr hlt Q K hK => ?_⟩
  refine wpOp_of ho (gd_wanted hg hl) ?_
  obtain ⟨vs, hL, hrun⟩ := call_enter (P := P) hk hop hc hf ha (EV.looks hl)
  rw [hrun, Oper.upon_enter]
  refine (frozen_call live hr hL (fun hlv b o p hm hb => hag b o p (by rw [hlv]; simp) (by rw [hlv]; simp) hm hb) hrf hb).mono fun e w' he => ?_
  obtain ⟨v, Sc, mc, rfl, hext, hv, hrel, hSc, hlive⟩ := he
  have hres := (rf_all (!live) h1 hrel.content d').1 _ _ _ hrf' hv
  refine hK v w' _ m (hext.mono fun k hk => hk.elim (hr.inS k) (hr.inF k)) (fun k hk => .inl hk) (fun k hk => hk.imp id (fun h => h.1)) (fun _ _ h => h) (fun _ _ _ => rfl) (fun hc => absurd hc hnw) (fun _ _ h => by cases h)
    (VR.up (hres.mono (Ext.refl _ _) (fun k hk => ?_) (fun _ _ h => h))) (fun _ => hr.behind hext (fun _ => False)) (fun hc => absurd hc hnw)
  rcases hk with ⟨hfr, hk⟩ | ⟨b, o, p, hb, hm, rfl⟩
  · rcases hSc k hk with ⟨_, h2⟩ | ⟨h2, _⟩ | h2
    · exact .inl h2
    · rw [h2] at hfr; simp at hfr
    · exact .inr ⟨h2.1, h2.2, fun h => h⟩
  · exact .inr ⟨(hlive b o p hb hm).1, (hlive b o p hb hm).2, fun h => h⟩

theorem op_callT {N : Nat} {ops : Array Oper} {n0 i : Nat} {t : Fr} {h : Heap} {x : Nat} {o : Oper} {cl : Call} {f : Operand} {k : FuncId} {caps as as' : List AV} {b len sz : Nat} {es es' : List (List AV)} {h1 : Heap} {x1 d d' : Nat} (live : Bool)
    (ho : ops[i]? = some o) (hg : gd ops t o = some true) (hd : inN N o.dst = true) (hop : o.op = .call cl) (hc : cl.callee = .value f) (hf : ev t f = some (.fn k caps)) (ha : evs t cl.args.toList = some as)
    (hrf : rfs true d (if live then h else h0) (as ++ caps) = some as') (hb : FnS P k as' h0 0 (.sl b 0 len sz) h1 x1) (hh : h1 b = some (.cells es)) (hlen : len = es.length) (hrf' : rfe (!live) d' (upd h1 b none) es = some es') :
    OpS P N ops n0 i ⟨t, h, x⟩ (if live then .Q else .L) ⟨put t o.dst (.sl (n0 + i) 0 len sz), upd h (n0 + i) (some (.cells es')), x⟩ := by
  have hk := hb.2.1
  have hnw : (if live then Cls.Q else Cls.L) ≠ .W := by cases live <;> simp
  refine ⟨o, .sl (n0 + i) 0 len sz, [(n0 + i, some (.cells es'))], ho, hd, rfl, Nat.le_refl _, fun _ => ⟨rfl, rfl, fun _ h => by simp at h; subst h; exact .inl ⟨rfl, by simp⟩⟩, (fun hc => by cases live <;> simp at hc),
    fun b hb _ hh => (by show upd _ _ _ b = none; rw [upd_ne hb]; exact hh), fun hf hlt b hb => (by show upd _ _ _ b = none; rw [upd_ne (by simp only at hb hlt; omega)]; exact hf b hb), fun w S F m a g hr hag hl hs hx hfr hlt Q K hK => ?_⟩
  refine wpOp_of ho (gd_wanted hg hl) ?_
  obtain ⟨vs, hL, hrun⟩ := call_enter (P := P) hk hop hc hf ha (EV.looks hl)
  rw [hrun, Oper.upon_enter]
  refine (frozen_call live hr hL (fun hlv b o p hm hb => hag b o p (by rw [hlv]; simp) (by rw [hlv]; simp) hm hb) hrf hb).mono fun e w' he => ?_
  obtain ⟨v, Sc, mc, rfl, hext, hv, hrel, hSc, hlive⟩ := he
  -- the block that is taken over
  generalize hav : AV.sl b 0 len sz = av at hv
  cases hv <;> simp only [reduceCtorEq, AV.sl.injEq] at hav
  case sl b' off' len' cap p q1 q2 q3 q4 hm =>
  obtain ⟨rfl, rfl, rfl, hps⟩ := hav
  have hCR := hrel.content b _ p hh hm
  have hpl := hlive b _ p hh hm
  obtain ⟨arr, ty, c1, c2, c3, c4, c5⟩ := hCR.er
  have hcont' : ∀ b₁ o p, upd h1 b none b₁ = some o → mc b₁ = some p → CR w' Sc mc p o := by
    intro b₁ o p' hb₁ hm₁
    by_cases e : b₁ = b
    · subst e; rw [upd_same] at hb₁; cases hb₁
    · rw [upd_ne e] at hb₁; exact hrel.content b₁ o p' hb₁ hm₁
  obtain ⟨k1, k2⟩ := (rf_all (!live) (upd h1 b none) hcont' d').2.2 _ _ hrf'
  have hsub : ∀ k, SF (!live) Sc (upd h1 b none) mc k → S k ∨ (w.heap.size ≤ k ∧ k < w'.heap.size ∧ ¬ (k = p.blk)) := by
    intro k hk
    rcases hk with ⟨hfr, hk⟩ | ⟨b₁, o, p₁, hb₁, hm₁, rfl⟩
    · have hne : k ≠ p.blk := fun e => (hrel.apart b _ p hh hm).1 (e ▸ hk)
      rcases hSc k hk with ⟨_, h2⟩ | ⟨h2, _⟩ | h2
      · exact .inl h2
      · rw [h2] at hfr; simp at hfr
      · exact .inr ⟨h2.1, h2.2, hne⟩
    · by_cases e : b₁ = b
      · subst e; rw [upd_same] at hb₁; cases hb₁
      · rw [upd_ne e] at hb₁
        exact .inr ⟨(hlive b₁ o p₁ hb₁ hm₁).1, (hlive b₁ o p₁ hb₁ hm₁).2, hrel.disj _ _ _ _ _ _ hb₁ hh hm₁ hm e⟩
  have hr1 := hr.behind hext (fun k => k = p.blk)
  have hE : ER w' (fun k => S k ∨ (w.heap.size ≤ k ∧ k < w'.heap.size ∧ ¬ (k = p.blk))) (setm m (n0 + i) p) p.sz es' ((arr.toList.drop p.off).take (p.ext * p.sz)) := by
    refine ⟨by rw [c5.len, k1], fun j e' he' => ?_⟩
    have hj : j < es.length := by rw [← k1]; exact (List.getElem?_eq_some_iff.1 he').1
    obtain ⟨e2, he2, l1, l2, l3⟩ := k2 j _ (List.getElem?_eq_getElem hj)
    rw [he'] at he2; cases he2
    obtain ⟨m1, m2, m3⟩ := c5.each j _ (List.getElem?_eq_getElem hj)
    refine ⟨by rw [l1, m1], l2 m2, ?_⟩
    exact (l3 _ m3).mono (Ext.refl _ _) hsub (fun _ _ h => by cases h)
  have hCR' : CR w' (fun k => S k ∨ (w.heap.size ≤ k ∧ k < w'.heap.size ∧ ¬ (k = p.blk))) (setm m (n0 + i) p) p (.cells es') := CR.mk c1 (by rw [k1]; exact c2) c3 c4 hE
  have hle := setm_le (p := p) hs
  have hrel' : Rel w' (fun k => S k ∨ (w.heap.size ≤ k ∧ k < w'.heap.size ∧ ¬ (k = p.blk))) F (setm m (n0 + i) p) (upd g (n0 + i) (some (.cells es'))) := by
    have old : ∀ c o q, c ≠ n0 + i → upd g (n0 + i) (some (.cells es')) c = some o → setm m (n0 + i) p c = some q → g c = some o ∧ m c = some q := by
      intro c o q hc hgc hq
      rw [upd_ne hc] at hgc; rw [setm_ne hc] at hq; exact ⟨hgc, hq⟩
    refine ⟨fun c o q hgc hq => ?_, fun c₁ c₂ o₁ o₂ q₁ q₂ g₁ g₂ r₁ r₂ hne => ?_, fun c o q hgc hq => ?_, hr1.inS, hr1.inF, fun c q hq => ?_⟩
    · by_cases e : c = n0 + i
      · subst e; rw [upd_same] at hgc; cases hgc; rw [setm_same] at hq; cases hq; exact hCR'
      · obtain ⟨j1, j2⟩ := old c o q e hgc hq
        exact (hr1.content c o q j1 j2).mono (Ext.refl _ _) (fun _ h => h) hle rfl
    · by_cases e1 : c₁ = n0 + i
      · by_cases e2 : c₂ = n0 + i
        · exact absurd (e1.trans e2.symm) hne
        · subst e1; rw [setm_same] at r₁; cases r₁
          have := hr.inm c₂ q₂ (old _ _ _ e2 g₂ r₂).2
          intro e; omega
      · by_cases e2 : c₂ = n0 + i
        · subst e2; rw [setm_same] at r₂; cases r₂
          have := hr.inm c₁ q₁ (old _ _ _ e1 g₁ r₁).2
          intro e; omega
        · obtain ⟨j1, j2⟩ := old _ _ _ e1 g₁ r₁
          obtain ⟨l1, l2⟩ := old _ _ _ e2 g₂ r₂
          exact hr.disj _ _ _ _ _ _ j1 l1 j2 l2 hne
    · by_cases e : c = n0 + i
      · subst e; rw [setm_same] at hq; cases hq
        refine ⟨fun hk => hk.elim (fun hk => ?_) (fun hk => hk.2.2 rfl), fun hk => ?_⟩
        · have := hr.inS _ hk; omega
        · have := hr.inF _ hk; omega
      · obtain ⟨j1, j2⟩ := old c o q e hgc hq
        exact hr1.apart c o q j1 j2
    · by_cases e : c = n0 + i
      · subst e; rw [setm_same] at hq; cases hq; exact hpl.2
      · rw [setm_ne e] at hq; exact hr1.inm c q hq
  refine hK _ w' _ (setm m (n0 + i) p) (hext.mono fun k hk => hk.elim (hr.inS k) (hr.inF k)) (fun k hk => .inl hk) (fun k hk => hk.imp id (fun h => h.1)) hle (fun _ c hc => setm_ne hc) (fun hc => absurd hc hnw) (fun _ y hy hne => by simp at hy; subst hy; exact absurd rfl hne) ?_
    (fun _ => hrel') (fun hc => absurd hc hnw)
  · rw [hps]
    exact .sl (n0 + i) 0 len cap p setm_same q1 q2 q3 q4

end
end Go.Av
