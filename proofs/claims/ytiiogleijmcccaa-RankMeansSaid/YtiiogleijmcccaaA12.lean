/-
  One operation, in the model's world. Conditions: none.
-/
import Derived.Test.YtiiogleijmcccaaA11
import Derived.Laws.Tables
namespace Go.Av

section
variable {P : Program} {w : World} {S F : Nat → Prop} {m : Pm} {g : Heap} {Θ : Tab}

theorem cv1_ok {v : Value} {a : AV} (h : cv1 v = some a) : VR w S m a v := by
  unfold cv1 at h
  split at h <;> simp only [Option.some.injEq, reduceCtorEq] at h <;> subst h
  · exact .bool _
  · exact .int _ _
  · exact .str _
  · exact .nilp
  · exact .nils _
  · exact .nilm
  · exact .nilf
  · exact .nili

theorem cvs_ok : ∀ {vs : List Value} {as : List AV}, cvs vs = some as → LR w S m as vs
  | [], as, h => by simp [cvs] at h; subst h; exact LR.nil
  | v :: vs, as, h => by
    simp only [cvs] at h
    split at h
    · rename_i a as' h1 h2
      simp only [Option.some.injEq] at h; subst h
      exact LR.cons (cv1_ok h1) (cvs_ok h2)
    · cases h

theorem cv_ok {v : Value} {a : AV} (h : cv v = some a) : VR w S m a v := by
  unfold cv at h
  split at h
  · rename_i vs
    simp only [Option.map_eq_some_iff] at h
    obtain ⟨as, h1, rfl⟩ := h
    have := cvs_ok (w := w) (S := S) (m := m) h1
    exact .agg as vs.toList this.1 this.2
  · exact cv1_ok h

/-- What an operand is worth. -/
def EV (w : World) (S : Nat → Prop) (m : Pm) (t : Fr) (a : Act) (x : Operand) : Prop := ∀ c, ev t x = some c → VR w S m c (a.eval x)

theorem EV.of {t : Fr} {a : Act} {x : Operand} (h : ∀ i, x = .tmp i → VR w S m (t i) (a.tmps.getD i undef)) : EV w S m t a x := by
  intro c hc
  cases x with
  | tmp i => simp [ev] at hc; subst hc; exact h i rfl
  | const v => exact cv_ok hc
  | func f => simp [ev] at hc; subst hc; exact .fn f [] [] rfl (fun i c v h => by simp at h)
  | global _ => simp [ev] at hc

theorem evs_ok {t : Fr} {a : Act} : ∀ {os : List Operand} {as : List AV}, (∀ x ∈ os, EV w S m t a x) → evs t os = some as → LR w S m as (os.map a.eval)
  | [], as, _, h => by simp [evs] at h; subst h; exact LR.nil
  | o :: os, as, hx, h => by
    simp only [evs] at h
    split at h
    · rename_i a1 as' h1 h2
      simp only [Option.some.injEq] at h; subst h
      exact LR.cons (hx o (by simp) _ h1) (evs_ok (fun x hm => hx x (by simp [hm])) h2)
    · cases h

theorem evp_ok {t : Fr} {a : Act} : ∀ {os : List (Nat × Operand)} {as : List (Nat × AV)}, (∀ x ∈ os, EV w S m t a x.2) → evp t os = some as → PR w S m as (os.map fun p => (p.1, a.eval p.2))
  | [], as, _, h => by simp [evp] at h; subst h; exact trivial
  | (i, o) :: os, as, hx, h => by
    simp only [evp] at h
    split at h
    · rename_i a1 as' h1 h2
      simp only [Option.some.injEq] at h; subst h
      exact ⟨rfl, hx (i, o) (by simp) _ h1, evp_ok (fun x hm => hx x (by simp [hm])) h2⟩
    · cases h

/-- What is shown of an operation. -/
def Post (P : Program) (o : Oper) (a : Act) (w : World) (S F : Nat → Prop) (m : Pm) (g : Heap) (s : Nat) (v : AV) (u : Upd) : Prop :=
  ∃ v' w' m', ((execOp a.eval o).run P w = .ok (.value v') w' ∨ ((execOp a.eval o).run P w = .ok .skip w' ∧ v' = undef)) ∧
    Ext (fun k => S k ∨ F k) w w' ∧ (∀ b p, m b = some p → m' b = some p) ∧ (∀ b, b ≠ s → m' b = m b) ∧ VR w' S m' v v' ∧ Rel w' S F m' (upds g u)

theorem Post.pure {o : Oper} {a : Act} {s : Nat} {v : AV} {u : Upd} {v' : Value} (hr : Rel w S F m g) (hu : u = []) (h : (execOp a.eval o).run P w = .ok (.value v') w) (hv : VR w S m v v') : Post P o a w S F m g s v u :=
  ⟨v', w, m, .inl h, Ext.refl _ _, fun _ _ h => h, fun _ _ => rfl, hv, by subst hu; exact hr⟩

theorem Post.born {o : Oper} {a : Act} {s : Nat} {v : AV} {u : Upd} (hs : m s = none)
    (h : ∃ v' w' p, (execOp a.eval o).run P w = .ok (.value v') w' ∧ Ext (fun k => S k ∨ F k) w w' ∧ VR w' S (setm m s p) v v' ∧ Rel w' S F (setm m s p) (upds g u)) : Post P o a w S F m g s v u := by
  obtain ⟨v', w', p, h1, h2, h3, h4⟩ := h
  exact ⟨v', w', setm m s p, .inl h1, h2, setm_le hs, fun b hb => setm_ne hb, h3, h4⟩

theorem P1_inv {v' : Option AV} {c : Cls} {v : AV} {u : Upd} (h : P1 v' = some (c, v, u)) : v' = some v ∧ c = .P ∧ u = [] := by
  unfold P1 at h
  simp only [Option.map_eq_some_iff, Prod.mk.injEq] at h
  obtain ⟨a, h1, h2, h3, h4⟩ := h
  exact ⟨by rw [h1, h3], h2.symm, h4.symm⟩

theorem VR.sl_inv {b off len sz : Nat} {x : Value} (h : VR w S m (.sl b off len sz) x) : ∃ p, m b = some p := by
  generalize hav : AV.sl b off len sz = av at h
  cases h <;> simp only [reduceCtorEq, AV.sl.injEq] at hav
  obtain ⟨rfl, _⟩ := hav
  exact ⟨_, ‹_›⟩

theorem append_ok {t tx ty : TypeId} {ti ti2 : TI} (hT : TyOK P t ti) (hT2 : TyOK P tx ti2) {k1 k2 : Nat} {k3 : List AV} (hk2 : ti2.kind = .slice k1 k2 k3) {hc : Heap} {n0 s : Nat} {x y v : AV} {c : Cls} {u : Upd} {xv yv : Value}
    (h : aAppend ti hc n0 s x y = some (c, v, u)) (hx : VR w S m x xv) (hy : VR w S m y yv) (hg : ∀ b o p, c ≠ .P → (c = .L → b < n0) → m b = some p → hc b = some o → g b = some o) (hs : m s = none) (hr : Rel w S F m g) :
    ∃ v' w' m', (Builtin.append_ #[t, tx] ty #[xv, yv]).run P w = .ok v' w' ∧ Ext (fun k => S k ∨ F k) w w' ∧ (∀ b q, m b = some q → m' b = some q) ∧ (∀ b, b ≠ s → m' b = m b) ∧
      VR w' S m' v v' ∧ Rel w' S F m' (upds g u) := by
  obtain ⟨d2, hund2, _, hkind2⟩ := hT2.und
  rw [hk2] at hkind2
  obtain ⟨e2, _, _, hd2, _⟩ := hkind2
  subst hd2
  obtain ⟨d, hund, _, hkind⟩ := hT.und
  unfold aAppend at h
  split at h
  · rename_i esz eb ez hk
    rw [hk] at hkind
    obtain ⟨e, i, z, hd, hi, hisz, hib, hz, hzc⟩ := hkind
    subst hd
    split at h
    · rename_i hcond
      obtain ⟨hsz0, hb0, hzl⟩ := hcond
      split at h
      · rename_i new hnew
        split at h
        · -- onto nothing
          generalize hxn : AV.nils = xn at hx
          cases hx <;> simp only [reduceCtorEq] at hxn
          rename_i ad
          have hcls : c = rdCls n0 y := by
            split at h
            · simp only [Option.some.injEq, Prod.mk.injEq] at h; exact h.1.symm
            · split at h
              · simp only [Option.some.injEq, Prod.mk.injEq] at h; exact h.1.symm
              · cases h
          have hP : c ≠ .P := by rw [hcls]; unfold rdCls; split <;> simp
          obtain ⟨news, hE, hsrc⟩ := elems_ok (P := P) (tx := tx) hund2 hsz0 hnew hy (fun b o p hb hh hm => hr.content b o p (hg b o p hP (fun hL => by
            cases y <;> simp only at hb
            subst hb; exact rdCls_L (hcls.symm.trans hL) rfl) hm hh) hm)
          split at h
          · rename_i hemp
            have hn0 : new = [] := by simpa using hemp
            subst hn0
            simp only [Option.some.injEq, Prod.mk.injEq] at h
            obtain ⟨_, hv, hu⟩ := h
            subst hv hu
            have hnn : news = [] := by
              have := hE.len
              simpa using this
            subst hnn hisz
            exact ⟨_, w, m, append_zero_ok hund hi hsrc ad, Ext.refl _ _, fun _ _ h => h, fun _ _ => rfl, .nils ad, hr⟩
          · rename_i hemp
            split at h
            · rename_i hbound
              simp only [Option.some.injEq, Prod.mk.injEq] at h
              obtain ⟨_, hv, hu⟩ := h
              subst hv hu
              exact append_nil_ok hund hi hisz hz hzc hzl hE hsrc (by rw [hib]; exact hbound) (by rw [hib]; exact hb0) (by simpa using hemp) ad hs hr
            · cases h
        · rename_i b off len sz
          split at h
          · rename_i es hb
            split at h
            · rename_i hcond2
              obtain ⟨rfl, hle, hbound⟩ := hcond2
              obtain ⟨p, hm⟩ := hx.sl_inv
              have hcls : c = .W ∨ c = .F := by
                split at h
                · simp only [Option.some.injEq, Prod.mk.injEq] at h; exact .inl h.1.symm
                · split at h
                  · simp only [Option.some.injEq, Prod.mk.injEq] at h
                    rw [← h.1]; split <;> simp
                  · cases h
              have hP : c ≠ .P := by rcases hcls with h | h <;> rw [h] <;> simp
              have hL : c = .L → False := by rcases hcls with h | h <;> rw [h] <;> simp
              have hgb := hg b _ p hP (fun h => (hL h).elim) hm hb
              obtain ⟨news, hE, hsrc⟩ := elems_ok (P := P) (tx := tx) hund2 hsz0 hnew hy (fun b o p _ hh hm => hr.content b o p (hg b o p hP (fun h => (hL h).elim) hm hh) hm)
              obtain ⟨hA, hB⟩ := append_sl_ok (ty := ty) hund hi hisz hz hzc hzl hE hsrc hx hgb hle (by rw [hib]; exact hbound) (by rw [hib]; exact hb0) hs hr
              split at h
              · rename_i hin
                simp only [Option.some.injEq, Prod.mk.injEq] at h
                obtain ⟨_, hv, hu⟩ := h
                subst hv hu
                obtain ⟨v', w', h1, h2, h3, h4⟩ := hA hin.1
                exact ⟨v', w', m, h1, h2, fun _ _ h => h, fun _ _ => rfl, h3, h4⟩
              · split at h
                · rename_i hend
                  simp only [Option.some.injEq, Prod.mk.injEq] at h
                  obtain ⟨_, hv, hu⟩ := h
                  subst hv hu
                  exact hB hend
                · cases h
            · cases h
          · cases h
        · cases h
      · cases h
    · cases h
  · cases h

theorem aStore_W {ti : TI} {hc : Heap} {a x v : AV} {c : Cls} {u : Upd} (h : aStore ti hc a x = some (c, v, u)) : c = .W := by
  unfold aStore at h
  split at h
  · split at h
    · split at h
      · split at h
        · simp only [Option.some.injEq, Prod.mk.injEq] at h; exact h.1.symm
        · cases h
      · cases h
    · cases h
  · cases h

theorem aLoad_P {ti : TI} {hc : Heap} {n0 : Nat} {a v : AV} {c : Cls} {u : Upd} (h : aLoad ti hc n0 a = some (c, v, u)) : c ≠ .P := by
  unfold aLoad at h
  split at h
  · split at h
    · simp only [Option.some.injEq, Prod.mk.injEq] at h
      rw [← h.1]; unfold rdCls; split <;> simp
    · cases h
  · cases h

theorem fields_places {fs : List (Nat × Nat × Bool)} {fields : List Field} (hl : fs.length = fields.length)
    (h : ∀ (j o s : Nat) (g : Bool), fs[j]? = some (o, s, g) → ∃ (f : Field) (i : TypeInfo), fields[j]? = some f ∧ f.offset = o ∧ P.info? f.type = some i ∧ i.size = s) :
    fields.mapM (fun f => (P.info? f.type).map fun i => (f.offset, i.size)) = some (fs.map fun f => (f.1, f.2.1)) := by
  induction fields generalizing fs with
  | nil => cases fs with
    | nil => rfl
    | cons _ _ => simp at hl
  | cons fd rest ih => cases fs with
    | nil => simp at hl
    | cons p ps =>
      obtain ⟨o, s, gg⟩ := p
      obtain ⟨f, i, h1, h2, h3, h4⟩ := h 0 o s gg rfl
      simp at h1; subst h1
      have := ih (fs := ps) (by simpa using hl) (fun j o s g hj => by
        obtain ⟨f, i, k1, k2⟩ := h (j + 1) o s g (by simpa using hj)
        exact ⟨f, i, by simpa using k1, k2⟩)
      simp [List.mapM_cons, h3, this, h2, h4]

theorem aop_sound (hT : TabOK P Θ) {o : Oper} {t : Fr} {a : Act} {hc : Heap} {n0 s : Nat} {c : Cls} {v : AV} {u : Upd} (h : aop Θ o.op t hc n0 s = some (c, v, u))
    (hev : ∀ x ∈ o.op.operands, EV w S m t a x) (hg : ∀ b o p, c ≠ .P → (c = .L → b < n0) → m b = some p → hc b = some o → g b = some o) (hs : m s = none) (hr : Rel w S F m g) : Post P o a w S F m g s v u := by
  have hcont : c ≠ .P → ∀ b o p, (c = .L → b < n0) → hc b = some o → m b = some p → CR w S m p o := fun hP b o p hb hh hm => hr.content b o p (hg b o p hP hb hm hh) hm
  obtain ⟨dst, op, type, pos, after, guard⟩ := o
  cases op <;> simp only [aop, reduceCtorEq] at h
  case move x =>
    obtain ⟨h1, _, hu⟩ := P1_inv h
    exact .pure hr hu rfl (hev x (by simp [Op.operands]) _ h1)
  case assign x =>
    obtain ⟨h1, _, hu⟩ := P1_inv h
    exact .pure hr hu rfl (hev x (by simp [Op.operands]) _ h1)
  case pick x y z =>
    split at h
    · rename_i b a1 a2 h1 h2 h3
      obtain ⟨h4, _, hu⟩ := P1_inv h
      simp only [Option.some.injEq] at h4
      have hb := hev x (by simp [Op.operands]) _ h1
      generalize hxv : a.eval x = xv at hb
      cases hb
      refine .pure (v' := if b then a.eval y else a.eval z) hr hu (by simp [execOp, hxv, asBool]) ?_
      cases b
      · simp at h4 ⊢; subst h4; exact hev z (by simp [Op.operands]) _ h3
      · simp at h4 ⊢; subst h4; exact hev y (by simp [Op.operands]) _ h2
    · cases h
  case alloc ty =>
    split at h
    · rename_i ti hti
      obtain ⟨v', w', p, h1, h2⟩ := alloc_ok (hT ty ti hti) h hs hr
      exact .born hs ⟨v', w', p, by simp [execOp, h1], h2⟩
    · cases h
  case box ty x =>
    split at h
    · rename_i a1 h1
      obtain ⟨v', w', p, h2, h3⟩ := box_ok (P := P) (t := ty) h (hev x (by simp [Op.operands]) _ h1) hs hr
      exact .born hs ⟨v', w', p, by simp [execOp, h2], h3⟩
    · cases h
  case build ty ps =>
    split at h
    · rename_i ti as hti h1
      have hp := evp_ok (w := w) (S := S) (m := m) (a := a) (fun x hx => hev x.2 (by simp only [Op.operands, List.mem_toArray, List.mem_map]; exact ⟨x, hx, rfl⟩)) h1
      obtain ⟨d, hund, hrow, hkind⟩ := (hT ty ti hti).und
      obtain ⟨i, z, hi, hiz, hz, hzc⟩ := (hT ty ti hti).info
      have hpl : (ps.map fun x => (x.1, a.eval x.2)).toList = ps.toList.map fun p => (p.1, a.eval p.2) := by simp
      unfold aBuild at h
      split at h
      · rename_i fs hk
        rw [hk] at hkind
        obtain ⟨fields, hd, hlen, hall⟩ := hkind
        subst hd
        split at h
        · rename_i cs hf
          simp only [Option.some.injEq, Prod.mk.injEq] at h
          obtain ⟨_, hv, hu⟩ := h
          subst hv
          have hpls := fields_places (P := P) (fs := fs) (fields := fields.toList) (by simpa using hlen) (fun j o s g hj => by
            obtain ⟨f, i, d', k1, k2, k3, k4, _⟩ := hall j o s g hj
            exact ⟨f, i, by simpa using k1, k2, k3, k4⟩)
          obtain ⟨vs', k1, k2⟩ := fill_ok (place' := fun i => (fs.map fun f => (f.1, f.2.1)).toArray[i]?) (fun i o s hh => by simpa using hh) as _ ti.zero cs z.cells.toList hp (hzc w S m) hf
          refine .pure hr hu.symm (v' := .agg ⟨vs'⟩) ?_ (.agg _ _ k2.1 k2.2)
          have hb : P.built ty (ps.map fun x => (x.1, a.eval x.2)).toList = some ⟨vs'⟩ := by
            rw [hpl]; simp only [Program.built, hi, hund, hz, hpls]; exact k1
          simp only [execOp, Sem.run_bind]
          rw [run_build w ty _ _ hb]; rfl
        · cases h
      · rename_i n esz gg hk
        rw [hk] at hkind
        obtain ⟨e, ei, d', hd, hei, heis, _⟩ := hkind
        subst hd
        split at h
        · rename_i cs hf
          simp only [Option.some.injEq, Prod.mk.injEq] at h
          obtain ⟨_, hv, hu⟩ := h
          subst hv
          obtain ⟨vs', k1, k2⟩ := fill_ok (place' := fun i => some (i * esz, esz)) (fun i o s hh => hh) as _ ti.zero cs z.cells.toList hp (hzc w S m) hf
          refine .pure hr hu.symm (v' := .agg ⟨vs'⟩) ?_ (.agg _ _ k2.1 k2.2)
          have hb : P.built ty (ps.map fun x => (x.1, a.eval x.2)).toList = some ⟨vs'⟩ := by
            rw [hpl]; simp only [Program.built, hi, hund, hz, hei, heis]; exact k1
          simp only [execOp, Sem.run_bind]
          rw [run_build w ty _ _ hb]; rfl
        · cases h
      · cases h
    · cases h
  case buildSlice ty len ps =>
    split at h
    · rename_i ti as hti h1
      have hp := evp_ok (w := w) (S := S) (m := m) (a := a) (fun x hx => hev x.2 (by simp only [Op.operands, List.mem_toArray, List.mem_map]; exact ⟨x, hx, rfl⟩)) h1
      obtain ⟨v', w', m', h2, h3, h4, h5, h6, h7⟩ := buildSlice_ok (hT ty ti hti) h hp hs hr
      refine ⟨v', w', m', .inl ?_, h3, h4, h5, h6, h7⟩
      have : (ps.map fun x => (x.1, a.eval x.2)) = (ps.toList.map fun p => (p.1, a.eval p.2)).toArray := by apply Array.ext'; simp
      simp only [execOp, Sem.run_bind]
      rw [this, h2]; rfl
    · cases h
  case load ty x =>
    split at h
    · rename_i ti a1 hti h1
      have hP := aLoad_P h
      obtain ⟨hu, v', h2, h3⟩ := load_ok (hT ty ti hti) h (hev x (by simp [Op.operands]) _ h1) (hcont hP)
      exact .pure hr hu (by simp [execOp, h2]) h3
    · cases h
  case store ty x y =>
    split at h
    · rename_i ti a1 a2 hti h1 h2
      have hW := aStore_W h
      obtain ⟨hv, w', h3, h4, h5⟩ := store_ok (hT ty ti hti) h (hev x (by simp [Op.operands]) _ h1) (hev y (by simp [Op.operands]) _ h2) (fun b o p hm hh => hg b o p (by rw [hW]; simp) (by rw [hW]; simp) hm hh) hr
      subst hv
      exact ⟨undef, w', m, .inr ⟨by simp [execOp, h3], rfl⟩, h4, fun _ _ h => h, fun _ _ => rfl, .tup [] [] rfl (fun i c v h => by simp at h), h5⟩
    · cases h
  case nilCheck x =>
    split at h
    · rename_i b i off h1
      obtain ⟨h4, _, hu⟩ := P1_inv h
      simp only [Option.some.injEq] at h4; subst h4
      have hb := hev x (by simp [Op.operands]) _ h1
      generalize hxv : a.eval x = xv at hb
      refine .pure (v' := xv) hr hu ?_ hb
      cases hb; simp [execOp, hxv]
    · rename_i cs off h1
      obtain ⟨h4, _, hu⟩ := P1_inv h
      simp only [Option.some.injEq] at h4; subst h4
      have hb := hev x (by simp [Op.operands]) _ h1
      generalize hxv : a.eval x = xv at hb
      refine .pure (v' := xv) hr hu ?_ hb
      cases hb; simp [execOp, hxv]
    · rename_i f cs h1
      obtain ⟨h4, _, hu⟩ := P1_inv h
      simp only [Option.some.injEq] at h4; subst h4
      have hb := hev x (by simp [Op.operands]) _ h1
      generalize hxv : a.eval x = xv at hb
      refine .pure (v' := xv) hr hu ?_ hb
      cases hb; simp [execOp, hxv]
    · cases h
  case binOp op ty x y ty2 =>
    split at h
    · rename_i a1 a2 h1 h2
      obtain ⟨h4, _, hu⟩ := P1_inv h
      obtain ⟨v', h5, h6⟩ := bin_ok (P := P) (ox := x) (oy := y) hT h4 (hev x (by simp [Op.operands]) _ h1) (hev y (by simp [Op.operands]) _ h2)
      refine .pure hr hu ?_ h6
      simp only [execOp]
      rw [Sem.run_bind, h5]; rfl
    · cases h
  case unOp op ty x =>
    split at h
    · rename_i a1 h1
      obtain ⟨h4, _, hu⟩ := P1_inv h
      obtain ⟨v', h5, h6⟩ := un_ok (P := P) h4 (hev x (by simp [Op.operands]) _ h1)
      exact .pure hr hu (by simp [execOp, h5]) h6
    · cases h
  case convert src dst' x =>
    split at h
    · rename_i a1 ti h1 hti
      obtain ⟨h4, _, hu⟩ := P1_inv h
      obtain ⟨d, hund, _⟩ := (hT src ti hti).und
      obtain ⟨v', h5, h6⟩ := conv_ok hT hund h4 (hev x (by simp [Op.operands]) _ h1)
      exact .pure hr hu (by simp [execOp, h5]) h6
    · cases h
  case makeFunc fn first caps =>
    split at h
    · rename_i f
      split at h
      · rename_i hf
        split at h
        · rename_i cs h1
          obtain ⟨h4, _, hu⟩ := P1_inv h
          simp only [Option.some.injEq] at h4; subst h4
          have hL := evs_ok (w := w) (S := S) (m := m) (a := a) (fun x hx => hev x (by simp only [Op.operands, Array.mem_append]; exact .inr (by simpa using hx))) h1
          have hf0 : first = #[] := by simpa using hf
          refine .pure hr hu (v' := .func (.func f) #[] ⟨caps.toList.map a.eval⟩) ?_ (.fn f cs _ hL.1 hL.2)
          simp [execOp, Instr.makeFunc, hf0]
          apply Array.ext'; simp
        · cases h
      · cases h
    · cases h
  case makeSlice ty x y =>
    split at h
    · rename_i ti a1 a2 hti h1 h2
      obtain ⟨v', w', p, h3, h4⟩ := make_ok (hT ty ti hti) h (hev x (by simp [Op.operands]) _ h1) (hev y (by simp [Op.operands]) _ h2) hs hr
      exact .born hs ⟨v', w', p, by simp [execOp, h3], h4⟩
    · cases h
  case slice ty x lo hi mx =>
    split at h
    · rename_i ti a1 hti h1
      split at h
      · rename_i lo' hi' mx' h2 h3 h4
        have ov : ∀ (q : Option Operand) (r : Option AV), (∀ z, q = some z → EV w S m t a z) → (match q with | none => some none | some o => (ev t o).map some) = some r → OV w S m r (q.map a.eval) := by
          intro q r hq hh
          cases q with
          | none => simp at hh; subst hh; trivial
          | some z =>
            simp only [Option.map_eq_some_iff] at hh
            obtain ⟨b, hb, rfl⟩ := hh
            exact hq z rfl _ hb
        obtain ⟨hu, v', h5, h6⟩ := slice_ok (hT ty ti hti) h (hev x (by simp [Op.operands]) _ h1) (ov lo lo' (fun z hz => hev z (by subst hz; simp [Op.operands])) h2)
          (ov hi hi' (fun z hz => hev z (by subst hz; simp [Op.operands])) h3) (ov mx mx' (fun z hz => hev z (by subst hz; simp [Op.operands])) h4)
        exact .pure hr hu (by simp [execOp, h5]) h6
      · cases h
    · cases h
  case fieldAddr ty x f =>
    split at h
    · rename_i ti a1 hti h1
      obtain ⟨hu, v', h5, h6⟩ := field_ok (hT ty ti hti) h (hev x (by simp [Op.operands]) _ h1)
      exact .pure hr hu (by simp [execOp, h5]) h6
    · cases h
  case field ty x f =>
    split at h
    · rename_i ti a1 hti h1
      obtain ⟨hu, v', h5, h6⟩ := fieldV_ok (hT ty ti hti) h (hev x (by simp [Op.operands]) _ h1)
      exact .pure hr hu (by simp [execOp, h5]) h6
    · cases h
  case indexAddr ty x ix =>
    split at h
    · rename_i ti a1 a2 hti h1 h2
      obtain ⟨hu, v', h5, h6⟩ := indexAddr_ok (hT ty ti hti) h (hev x (by simp [Op.operands]) _ h1) (hev ix (by simp [Op.operands]) _ h2)
      exact .pure hr hu (by simp [execOp, h5]) h6
    · cases h
  case index ty x ix =>
    split at h
    · rename_i ti a1 a2 hti h1 h2
      obtain ⟨hu, v', h5, h6⟩ := index_ok (hT ty ti hti) h (hev x (by simp [Op.operands]) _ h1) (hev ix (by simp [Op.operands]) _ h2)
      exact .pure hr hu (by simp [execOp, h5]) h6
    · cases h
  case extract x i =>
    split at h
    · rename_i cs h1
      obtain ⟨h4, _, hu⟩ := P1_inv h
      obtain ⟨v', h5, h6⟩ := extract_ok (P := P) h4 (hev x (by simp [Op.operands]) _ h1)
      exact .pure hr hu (by simp [execOp, h5]) h6
    · cases h
  case call cl =>
    split at h
    · rename_i b hcal
      split at h
      · rename_i as h1
        have hL := evs_ok (w := w) (S := S) (m := m) (a := a) (fun x hx => hev x (by simp only [Op.operands, Call.operands, Array.mem_append]; exact .inr (by simpa using hx))) h1
        have hargs : cl.args.map a.eval = (cl.args.toList.map a.eval).toArray := by apply Array.ext'; simp
        generalize cl.args.toList.map a.eval = vs at hL hargs
        unfold aBuiltin at h
        split at h
        · split at h
          · rename_i x ti hti
            cases hts : cl.argTypes[0]? with
            | none => simp [hts] at hti
            | some t0 =>
            simp only [hts, Option.bind_some] at hti
            split at h
            · rename_i hlt
              match vs, hL with
              | [xv], hL =>
              obtain ⟨hu, v', h5, h6⟩ := len_ok (P := P) (ty := type) (hT t0 ti hti) hlt h (hL.2 0 _ _ rfl rfl)
              refine .pure hr hu (v' := v') ?_ h6
              have hlen : ∀ ts : Array TypeId, ts[0]? = some t0 → (Builtin.len_ ts type #[xv]).run P w = (Builtin.len_ #[t0] type #[xv]).run P w := fun ts hh => by
                simp only [Builtin.len_, hh]; rfl
              simp only [execOp, resolve, hcal, hargs, Sem.run_bind, Sem.run_pure, Result.andThen_ok, invoke, builtin]
              rw [hlen _ hts, h5]; rfl
            · cases h
          · cases h
        · split at h
          · rename_i x y ti ti2 hti hti2
            cases hts : cl.argTypes[0]? with
            | none => simp [hts] at hti
            | some t0 =>
            cases hts2 : cl.argTypes[1]? with
            | none => simp [hts2] at hti2
            | some t1 =>
            simp only [hts, Option.bind_some] at hti
            simp only [hts2, Option.bind_some] at hti2
            split at h
            · rename_i k1 k2 k3 hk2
              match vs, hL with
              | [xv, yv], hL =>
              have happ : ∀ ts : Array TypeId, ts[0]? = some t0 → ts[1]? = some t1 → (Builtin.append_ ts type #[xv, yv]).run P w = (Builtin.append_ #[t0, t1] type #[xv, yv]).run P w := fun ts hh hh2 => by
                simp only [Builtin.append_, hh, hh2]; rfl
              have hx := hL.2 0 _ _ rfl rfl
              have hy := hL.2 1 _ _ rfl rfl
              obtain ⟨v', w', m', h5, h6, h7, h8, h9, h10⟩ := append_ok (ty := type) (hT t0 ti hti) (hT t1 ti2 hti2) hk2 h hx hy hg hs hr
              refine ⟨v', w', m', .inl ?_, h6, h7, h8, h9, h10⟩
              simp only [execOp, resolve, hcal, hargs, Sem.run_bind, Sem.run_pure, Result.andThen_ok, invoke, builtin]
              rw [happ _ hts hts2, h5]; rfl
            · cases h
          · cases h
        · obtain ⟨h4, _, hu⟩ := P1_inv h
          obtain ⟨v', h5, h6⟩ := min_ok (P := P) (ts := cl.argTypes) (ty := type) hL h4
          refine .pure hr hu (v' := v') ?_ h6
          simp only [execOp, resolve, hcal, hargs, Sem.run_bind, Sem.run_pure, Result.andThen_ok, invoke, builtin]
          rw [h5]; rfl
        · cases h
      · cases h
    · cases h

end
end Go.Av
