/-
  Texts A12, A13, A14, A15, A16, A17, A18, A19, A20, A21, A22 of this work, one behind the other. Conditions: none.
-/
import Derived.Test.YtiiogleijmcccaaAA
import Derived.Laws.Tables
import Derived.ScopeJumps
import Derived.LoopN
import Derived.Laws.StructEq
import Derived.DeepKeys

/-
  One operation, in the model's world. Conditions: none.
-/
namespace Go.Av

section
variable {P : Program} {w : World} {S F : Nat → Prop} {m : Pm} {g : Heap} {Θ : Tab}

theorem cv1_ok {v : Value} {a : AV} (h : cv1 v = some a) : VR w S m a v := by
  unfold cv1 at h
  split at h <;> simp only [Option.some.injEq, reduceCtorEq] at h <;> subst h
  · exact .bool _
  · exact .int _ _
  · exact .str _
  · exact .nilp
  · exact .nils _
  · exact .nilm
  · exact .nilf
  · exact .nili

theorem cvs_ok : ∀ {vs : List Value} {as : List AV}, cvs vs = some as → LR w S m as vs
  | [], as, h => by simp [cvs] at h; subst h; exact LR.nil
  | v :: vs, as, h => by
    simp only [cvs] at h
    split at h
    · rename_i a as' h1 h2
      simp only [Option.some.injEq] at h; subst h
      exact LR.cons (cv1_ok h1) (cvs_ok h2)
    · cases h

theorem cv_ok {v : Value} {a : AV} (h : cv v = some a) : VR w S m a v := by
  unfold cv at h
  split at h
  · rename_i vs
    simp only [Option.map_eq_some_iff] at h
    obtain ⟨as, h1, rfl⟩ := h
    have := cvs_ok (w := w) (S := S) (m := m) h1
    exact .agg as vs.toList this.1 this.2
  · exact cv1_ok h

/-- What an operand is worth. -/
def EV (w : World) (S : Nat → Prop) (m : Pm) (t : Fr) (a : Act) (x : Operand) : Prop := ∀ c, ev t x = some c → VR w S m c (a.eval x)

theorem EV.of {t : Fr} {a : Act} {x : Operand} (h : ∀ i, x = .tmp i → VR w S m (t i) (a.tmps.getD i undef)) : EV w S m t a x := by
  intro c hc
  cases x with
  | tmp i => simp [ev] at hc; subst hc; exact h i rfl
  | const v => exact cv_ok hc
  | func f => simp [ev] at hc; subst hc; exact .fn f [] [] rfl (fun i c v h => by simp at h)
  | global _ => simp [ev] at hc

theorem evs_ok {t : Fr} {a : Act} : ∀ {os : List Operand} {as : List AV}, (∀ x ∈ os, EV w S m t a x) → evs t os = some as → LR w S m as (os.map a.eval)
  | [], as, _, h => by simp [evs] at h; subst h; exact LR.nil
  | o :: os, as, hx, h => by
    simp only [evs] at h
    split at h
    · rename_i a1 as' h1 h2
      simp only [Option.some.injEq] at h; subst h
      exact LR.cons (hx o (by simp) _ h1) (evs_ok (fun x hm => hx x (by simp [hm])) h2)
    · cases h

theorem evp_ok {t : Fr} {a : Act} : ∀ {os : List (Nat × Operand)} {as : List (Nat × AV)}, (∀ x ∈ os, EV w S m t a x.2) → evp t os = some as → PR w S m as (os.map fun p => (p.1, a.eval p.2))
  | [], as, _, h => by simp [evp] at h; subst h; exact trivial
  | (i, o) :: os, as, hx, h => by
    simp only [evp] at h
    split at h
    · rename_i a1 as' h1 h2
      simp only [Option.some.injEq] at h; subst h
      exact ⟨rfl, hx (i, o) (by simp) _ h1, evp_ok (fun x hm => hx x (by simp [hm])) h2⟩
    · cases h

/-- What is shown of an operation. -/
def Post (P : Program) (o : Oper) (a : Act) (w : World) (S F : Nat → Prop) (m : Pm) (g : Heap) (s : Nat) (v : AV) (u : Upd) : Prop :=
  ∃ v' w' m', ((execOp a.eval o).run P w = .ok (.value v') w' ∨ ((execOp a.eval o).run P w = .ok .skip w' ∧ v' = undef)) ∧
    Ext (fun k => S k ∨ F k) w w' ∧ (∀ b p, m b = some p → m' b = some p) ∧ (∀ b, b ≠ s → m' b = m b) ∧ VR w' S m' v v' ∧ Rel w' S F m' (upds g u)

theorem Post.pure {o : Oper} {a : Act} {s : Nat} {v : AV} {u : Upd} {v' : Value} (hr : Rel w S F m g) (hu : u = []) (h : (execOp a.eval o).run P w = .ok (.value v') w) (hv : VR w S m v v') : Post P o a w S F m g s v u :=
  ⟨v', w, m, .inl h, Ext.refl _ _, fun _ _ h => h, fun _ _ => rfl, hv, by subst hu; exact hr⟩

theorem Post.born {o : Oper} {a : Act} {s : Nat} {v : AV} {u : Upd} (hs : m s = none)
    (h : ∃ v' w' p, (execOp a.eval o).run P w = .ok (.value v') w' ∧ Ext (fun k => S k ∨ F k) w w' ∧ VR w' S (setm m s p) v v' ∧ Rel w' S F (setm m s p) (upds g u)) : Post P o a w S F m g s v u := by
  obtain ⟨v', w', p, h1, h2, h3, h4⟩ := h
  exact ⟨v', w', setm m s p, .inl h1, h2, setm_le hs, fun b hb => setm_ne hb, h3, h4⟩

theorem P1_inv {v' : Option AV} {c : Cls} {v : AV} {u : Upd} (h : P1 v' = some (c, v, u)) : v' = some v ∧ c = .P ∧ u = [] := by
  unfold P1 at h
  simp only [Option.map_eq_some_iff, Prod.mk.injEq] at h
  obtain ⟨a, h1, h2, h3, h4⟩ := h
  exact ⟨by rw [h1, h3], h2.symm, h4.symm⟩

theorem VR.sl_inv {b off len sz : Nat} {x : Value} (h : VR w S m (.sl b off len sz) x) : ∃ p, m b = some p := by
  generalize hav : AV.sl b off len sz = av at h
  cases h <;> simp only [reduceCtorEq, AV.sl.injEq] at hav
  obtain ⟨rfl, _⟩ := hav
  exact ⟨_, ‹_›⟩

theorem append_ok {t tx ty : TypeId} {ti ti2 : TI} (hT : TyOK P t ti) (hT2 : TyOK P tx ti2) {k1 k2 : Nat} {k3 : List AV} (hk2 : ti2.kind = .slice k1 k2 k3) {hc : Heap} {n0 s : Nat} {x y v : AV} {c : Cls} {u : Upd} {xv yv : Value}
    (h : aAppend ti hc n0 s x y = some (c, v, u)) (hx : VR w S m x xv) (hy : VR w S m y yv) (hg : ∀ b o p, c ≠ .P → (c = .L → b < n0) → m b = some p → hc b = some o → g b = some o) (hs : m s = none) (hr : Rel w S F m g) :
    ∃ v' w' m', (Builtin.append_ #[t, tx] ty #[xv, yv]).run P w = .ok v' w' ∧ Ext (fun k => S k ∨ F k) w w' ∧ (∀ b q, m b = some q → m' b = some q) ∧ (∀ b, b ≠ s → m' b = m b) ∧
      VR w' S m' v v' ∧ Rel w' S F m' (upds g u) := by
  obtain ⟨d2, hund2, _, hkind2⟩ := hT2.und
  rw [hk2] at hkind2
  obtain ⟨e2, _, _, hd2, _⟩ := hkind2
  subst hd2
  obtain ⟨d, hund, _, hkind⟩ := hT.und
  unfold aAppend at h
  split at h
  · rename_i esz eb ez hk
    rw [hk] at hkind
    obtain ⟨e, i, z, hd, hi, hisz, hib, hz, hzc⟩ := hkind
    subst hd
    split at h
    · rename_i hcond
      obtain ⟨hsz0, hb0, hzl⟩ := hcond
      split at h
      · rename_i new hnew
        split at h
        · -- onto nothing
          generalize hxn : AV.nils = xn at hx
          cases hx <;> simp only [reduceCtorEq] at hxn
          rename_i ad
          have hcls : c = rdCls n0 y := by
            split at h
            · simp only [Option.some.injEq, Prod.mk.injEq] at h; exact h.1.symm
            · split at h
              · simp only [Option.some.injEq, Prod.mk.injEq] at h; exact h.1.symm
              · cases h
          have hP : c ≠ .P := by rw [hcls]; unfold rdCls; split <;> simp
          obtain ⟨news, hE, hsrc⟩ := elems_ok (P := P) (tx := tx) hund2 hsz0 hnew hy (fun b o p hb hh hm => hr.content b o p (hg b o p hP (fun hL => by
            cases y <;> simp only at hb
            subst hb; exact rdCls_L (hcls.symm.trans hL) rfl) hm hh) hm)
          split at h
          · rename_i hemp
            have hn0 : new = [] := by simpa using hemp
            subst hn0
            simp only [Option.some.injEq, Prod.mk.injEq] at h
            obtain ⟨_, hv, hu⟩ := h
            subst hv hu
            have hnn : news = [] := by
              have := hE.len
              simpa using this
            subst hnn hisz
            exact ⟨_, w, m, append_zero_ok hund hi hsrc ad, Ext.refl _ _, fun _ _ h => h, fun _ _ => rfl, .nils ad, hr⟩
          · rename_i hemp
            split at h
            · rename_i hbound
              simp only [Option.some.injEq, Prod.mk.injEq] at h
              obtain ⟨_, hv, hu⟩ := h
              subst hv hu
              exact append_nil_ok hund hi hisz hz hzc hzl hE hsrc (by rw [hib]; exact hbound) (by rw [hib]; exact hb0) (by simpa using hemp) ad hs hr
            · cases h
        · rename_i b off len sz
          split at h
          · rename_i es hb
            split at h
            · rename_i hcond2
              obtain ⟨rfl, hle, hbound⟩ := hcond2
              obtain ⟨p, hm⟩ := hx.sl_inv
              have hcls : c = .W ∨ c = .F := by
                split at h
                · simp only [Option.some.injEq, Prod.mk.injEq] at h; exact .inl h.1.symm
                · split at h
                  · simp only [Option.some.injEq, Prod.mk.injEq] at h
                    rw [← h.1]; split <;> simp
                  · cases h
              have hP : c ≠ .P := by rcases hcls with h | h <;> rw [h] <;> simp
              have hL : c = .L → False := by rcases hcls with h | h <;> rw [h] <;> simp
              have hgb := hg b _ p hP (fun h => (hL h).elim) hm hb
              obtain ⟨news, hE, hsrc⟩ := elems_ok (P := P) (tx := tx) hund2 hsz0 hnew hy (fun b o p _ hh hm => hr.content b o p (hg b o p hP (fun h => (hL h).elim) hm hh) hm)
              obtain ⟨hA, hB⟩ := append_sl_ok (ty := ty) hund hi hisz hz hzc hzl hE hsrc hx hgb hle (by rw [hib]; exact hbound) (by rw [hib]; exact hb0) hs hr
              split at h
              · rename_i hin
                simp only [Option.some.injEq, Prod.mk.injEq] at h
                obtain ⟨_, hv, hu⟩ := h
                subst hv hu
                obtain ⟨v', w', h1, h2, h3, h4⟩ := hA hin.1
                exact ⟨v', w', m, h1, h2, fun _ _ h => h, fun _ _ => rfl, h3, h4⟩
              · split at h
                · rename_i hend
                  simp only [Option.some.injEq, Prod.mk.injEq] at h
                  obtain ⟨_, hv, hu⟩ := h
                  subst hv hu
                  exact hB hend
                · cases h
            · cases h
          · cases h
        · cases h
      · cases h
    · cases h
  · cases h

theorem aStore_W {ti : TI} {hc : Heap} {a x v : AV} {c : Cls} {u : Upd} (h : aStore ti hc a x = some (c, v, u)) : c = .W := by
  unfold aStore at h
  split at h
  · split at h
    · split at h
      · split at h
        · simp only [Option.some.injEq, Prod.mk.injEq] at h; exact h.1.symm
        · cases h
      · cases h
    · cases h
  · cases h

theorem aLoad_P {ti : TI} {hc : Heap} {n0 : Nat} {a v : AV} {c : Cls} {u : Upd} (h : aLoad ti hc n0 a = some (c, v, u)) : c ≠ .P := by
  unfold aLoad at h
  split at h
  · split at h
    · simp only [Option.some.injEq, Prod.mk.injEq] at h
      rw [← h.1]; unfold rdCls; split <;> simp
    · cases h
  · cases h

theorem fields_places {fs : List (Nat × Nat × Bool)} {fields : List Field} (hl : fs.length = fields.length)
    (h : ∀ (j o s : Nat) (g : Bool), fs[j]? = some (o, s, g) → ∃ (f : Field) (i : TypeInfo), fields[j]? = some f ∧ f.offset = o ∧ P.info? f.type = some i ∧ i.size = s) :
    fields.mapM (fun f => (P.info? f.type).map fun i => (f.offset, i.size)) = some (fs.map fun f => (f.1, f.2.1)) := by
  induction fields generalizing fs with
  | nil => cases fs with
    | nil => rfl
    | cons _ _ => simp at hl
  | cons fd rest ih => cases fs with
    | nil => simp at hl
    | cons p ps =>
      obtain ⟨o, s, gg⟩ := p
      obtain ⟨f, i, h1, h2, h3, h4⟩ := h 0 o s gg rfl
      simp at h1; subst h1
      have := ih (fs := ps) (by simpa using hl) (fun j o s g hj => by
        obtain ⟨f, i, k1, k2⟩ := h (j + 1) o s g (by simpa using hj)
        exact ⟨f, i, by simpa using k1, k2⟩)
      simp [List.mapM_cons, h3, this, h2, h4]

/-- Entries stand for pairs. -/
def MR (w : World) (S : Nat → Prop) (m : Pm) : List (AV × AV) → List MapEntry → Prop
  | [], [] => True
  | (k, x) :: es, e :: en => (VR w S m k e.key ∧ VR w S m x e.val) ∧ MR w S m es en
  | _, _ => False

theorem MR.of : ∀ {es : List (AV × AV)} {en : List MapEntry}, en.length = es.length → (∀ (i : Nat) (k x : AV) (e : MapEntry), es[i]? = some (k, x) → en[i]? = some e → VR w S m k e.key ∧ VR w S m x e.val) → MR w S m es en
  | [], [], _, _ => trivial
  | [], _ :: _, h, _ => by simp at h
  | _ :: _, [], h, _ => by simp at h
  | (k, x) :: es, e :: en, h, hh => ⟨hh 0 k x e rfl rfl, MR.of (by simpa using h) fun i k x e h1 h2 => hh (i + 1) k x e (by simpa using h1) (by simpa using h2)⟩

theorem find_ok {keq : List EK} {kt : TypeId} {a : AV} {kv : Value} (heq : ∀ (y : Value) (b : AV) (r : Bool), VR w S m b y → cellEq keq a b = some r → (Op.equal kt kv y).run P w = .ok r w) :
    ∀ (es : List (AV × AV)) (en : List MapEntry) (i : Nat) (r : Option AV), MR w S m es en → find keq a es = some r →
      (r = none ∧ (Instr.findAsking kt kv en i).run P w = .ok none w) ∨ ∃ x j v, r = some x ∧ (Instr.findAsking kt kv en i).run P w = .ok (some (j, v)) w ∧ VR w S m x v
  | [], [], i, r, _, h => by
    simp only [find, Option.some.injEq] at h; subst h
    exact .inl ⟨rfl, by simp [Instr.findAsking]⟩
  | [], _ :: _, _, _, h, _ => h.elim
  | _ :: _, [], _, _, h, _ => h.elim
  | (k, x) :: es, e :: en, i, r, h, hf => by
    obtain ⟨⟨h1, h2⟩, h3⟩ := h
    rw [find] at hf
    cases hc : cellEq keq a k with
    | none => rw [hc] at hf; cases hf
    | some b =>
      have he := heq _ _ b h1 hc
      rw [hc] at hf
      cases b with
      | true =>
        simp only [Option.some.injEq] at hf; subst hf
        exact .inr ⟨x, i, e.val, rfl, by simp [Instr.findAsking, Sem.run_bind, he], h2⟩
      | false =>
        have ih := find_ok heq es en (i + 1) r h3 hf
        have e2 : (Instr.findAsking kt kv (e :: en) i).run P w = (Instr.findAsking kt kv en (i + 1)).run P w := by simp [Instr.findAsking, Sem.run_bind, he]
        rw [e2]; exact ih

theorem find_key {kt : TypeId} {fs : Array Field} (hk : P.underlying kt = some (.struct fs)) (kv : Value) (en : List MapEntry) : (Instr.findKey kt kv en).run P w = (Instr.findAsking kt kv en).run P w := by
  cases en with
  | nil => simp [Instr.findKey, run_underlying hk, Instr.findNow, Instr.findAsking]
  | cons e en => simp [Instr.findKey, run_underlying hk, Instr.findNow, Instr.sameNow]

theorem lookup_ok {t : TypeId} {ti : TI} (hT : TyOK P t ti) {hc : Heap} {n0 : Nat} {x k v : AV} {ok : Bool} {c : Cls} {u : Upd} {xv kv : Value} (h : aLookup ti hc n0 x k ok = some (c, v, u)) (hx : VR w S m x xv) (hk : VR w S m k kv)
    (hcont : ∀ b o p, (c = .L → b < n0) → hc b = some o → m b = some p → CR w S m p o) : u = [] ∧ ∃ v', (Instr.lookup t xv kv ok).run P w = .ok v' w ∧ VR w S m v v' := by
  unfold aLookup at h
  split at h
  · rename_i keq vz hkind
    obtain ⟨d, hund, _, hK⟩ := hT.und
    rw [hkind] at hK
    obtain ⟨kt, et, i, z, rfl, hi, hz, hvz, hck, heq, fs, hfs⟩ := hK
    have hzero : (zeroValue et).run P w = .ok z w := by simp [zeroValue, typeInfo, hi, hz]
    have main : ∀ (es : List (AV × AV)) (en : Array MapEntry), MR w S m es en.toList → (if keyOK keq k = true then match find keq k es with
        | some (some v) => some (rdCls n0 x, if ok = true then AV.tup [v, .bool true] else v, ([] : Upd))
        | some none => some (rdCls n0 x, if ok = true then .tup [vz, .bool false] else vz, [])
        | none => none
        else none) = some (c, v, u) →
        c = rdCls n0 x ∧ u = [] ∧ (∀ b, (Instr.checkKey b 10000 kt kv).run P w = .ok () w) ∧ ∃ o : Option (Nat × Value), (Instr.findAsking kt kv en.toList).run P w = .ok o w ∧
          VR w S m v (if ok = true then .tuple #[match o with | some (_, v) => v | none => z, .bool o.isSome] else match o with | some (_, v) => v | none => z) := by
      intro es en hM h
      split at h
      · rename_i hkey
        have hchk := fun b => hck kv w S m k hk hkey b
        cases hf : find keq k es with
        | none => rw [hf] at h; cases h
        | some r =>
          rcases find_ok (P := P) (fun y b r hb hc => heq kv y w S m k b r hk hb hc) es en.toList 0 r hM hf with ⟨rfl, hfa⟩ | ⟨xx, j, vv, rfl, hfa, hvv⟩
          · rw [hf] at h
            simp only [Option.some.injEq, Prod.mk.injEq] at h
            obtain ⟨rfl, rfl, rfl⟩ := h
            refine ⟨rfl, rfl, hchk, none, hfa, ?_⟩
            cases ok
            · simpa using hvz w S m
            · simp only [if_true]
              exact .tup _ _ rfl fun i c v h1 h2 => by
                match i with
                | 0 => simp at h1 h2; subst h1 h2; exact hvz w S m
                | 1 => simp at h1 h2; subst h1 h2; exact .bool false
                | n + 2 => simp at h1
          · rw [hf] at h
            simp only [Option.some.injEq, Prod.mk.injEq] at h
            obtain ⟨rfl, rfl, rfl⟩ := h
            refine ⟨rfl, rfl, hchk, some (j, vv), hfa, ?_⟩
            cases ok
            · simpa using hvv
            · simp only [if_true]
              exact .tup _ _ rfl fun i c v h1 h2 => by
                match i with
                | 0 => simp at h1 h2; subst h1 h2; exact hvv
                | 1 => simp at h1 h2; subst h1 h2; exact .bool true
                | n + 2 => simp at h1
      · cases h
    cases x <;> simp only [reduceCtorEq] at h
    case nilm =>
      cases hx
      obtain ⟨_, hu, hchk, o, h1, h2⟩ := main [] #[] trivial h
      refine ⟨hu, _, ?_, h2⟩
      have h1' : (Instr.findAsking kt kv []).run P w = .ok o w := h1
      unfold Instr.lookup
      simp only [Sem.run_bind, run_underlying hund, Result.andThen_ok, Sem.run_pure, hchk, find_key hfs, h1']
      rcases o with _ | ⟨a, b⟩ <;> cases ok <;> simp [hzero]
    case mp b =>
      cases hh : hc b with
      | none => rw [hh] at h; simp at h
      | some o =>
        cases o with
        | cells es => rw [hh] at h; simp at h
        | map es =>
          rw [hh] at h
          simp only at h
          generalize hbb : AV.mp b = bb at hx
          cases hx <;> simp only [reduceCtorEq, AV.mp.injEq] at hbb
          case mp b' p hp =>
          subst hbb
          have hcl : c = .L → b < n0 := fun hL => by
            have hcr : c = rdCls n0 (.mp b) := by
              split at h
              · split at h <;> simp at h <;> exact h.1.symm
              · cases h
            exact rdCls_L (a := .mp b) (hcr ▸ hL) rfl
          obtain ⟨en, clock, e1, e2, e3⟩ := hcont b _ p hcl hh hp
          obtain ⟨_, hu, hchk, o, h1, h2⟩ := main es en (MR.of (by simpa using e2) fun i k x e h1 h2 => e3 i k x e h1 (by simpa using h2)) h
          refine ⟨hu, _, ?_, h2⟩
          have hget : (getObj p.blk).run P w = .ok (.map en clock) w := by simp [getObj, Sem.run, e1]
          unfold Instr.lookup
          simp only [Sem.run_bind, run_underlying hund, Result.andThen_ok, Sem.run_pure, hget, hchk, find_key hfs, h1]
          rcases o with _ | ⟨a, b⟩ <;> cases ok <;> simp [hzero]
  · cases h

theorem mapUpdate_ok {t : TypeId} {ti : TI} (hT : TyOK P t ti) {hc : Heap} {x k y v : AV} {c : Cls} {u : Upd} {xv kv yv : Value} (h : aMapUpdate ti hc x k y = some (c, v, u)) (hx : VR w S m x xv) (hk : VR w S m k kv) (hy : VR w S m y yv)
    (hg : ∀ b o p, m b = some p → hc b = some o → g b = some o) (hr : Rel w S F m g) : v = .tup [] ∧ ∃ w', (Instr.mapUpdate t xv kv yv).run P w = .ok () w' ∧ Ext (fun k => S k ∨ F k) w w' ∧ Rel w' S F m (upds g u) := by
  unfold aMapUpdate at h
  split at h
  · rename_i keq vz b hkind
    obtain ⟨d, hund, _, hK⟩ := hT.und
    rw [hkind] at hK
    obtain ⟨kt, et, i, z, rfl, hi, hz, hvz, hck, heq, fs, hfs⟩ := hK
    split at h
    · rename_i es hh
      split at h
      · rename_i hkey
        split at h
        · rename_i hf
          simp only [Option.some.injEq, Prod.mk.injEq] at h
          obtain ⟨_, rfl, rfl⟩ := h
          cases hx with
          | mp _ p hp =>
          have hgb := hg b _ p hp hh
          obtain ⟨en, clock, e1, e2, e3⟩ := hr.content b _ p hgb hp
          have hap := hr.apart b _ p hgb hp
          have hM := MR.of (w := w) (S := S) (m := m) (es := es) (en := en.toList) (by simpa using e2) fun i k x e h1 h2 => e3 i k x e h1 (by simpa using h2)
          obtain ⟨_, hfa⟩ | ⟨_, _, _, hcc, _⟩ := find_ok (P := P) (fun y b r hb hc => heq kv y w S m k b r hk hb hc) es en.toList 0 none hM hf
          · have hlt : p.blk < w.heap.size := (Array.getElem?_eq_some_iff.1 e1).1
            have hE : Ext (fun k => k ≠ p.blk) w { w with heap := w.heap.setIfInBounds p.blk (.map (en.push { key := kv, val := yv, born := clock }) (clock + 1)) } :=
              ⟨rfl, rfl, rfl, by simp, fun k hk => by simp [Ne.symm hk]⟩
            have hES : Ext S w { w with heap := w.heap.setIfInBounds p.blk (.map (en.push { key := kv, val := yv, born := clock }) (clock + 1)) } := hE.mono fun k hk e => hap.1 (e ▸ hk)
            refine ⟨rfl, _, ?_, hE.mono fun k hk e => ?_, hr.write hgb hp hE ?_⟩
            · have hget : (getObj p.blk).run P w = .ok (.map en clock) w := by simp [getObj, Sem.run, e1]
              have hset : ∀ o, (setObj p.blk o).run P w = .ok () { w with heap := w.heap.setIfInBounds p.blk o } := fun o => by simp [setObj, Sem.run, e1]
              unfold Instr.mapUpdate
              simp only [Sem.run_bind, run_underlying hund, Result.andThen_ok, Sem.run_pure, hget, hck kv w S m k hk hkey false, find_key hfs, hfa, hset]
            · subst e; exact hk.elim hap.1 hap.2
            · refine ⟨en.push { key := kv, val := yv, born := clock }, clock + 1, by simp [hlt], by simp [e2], fun i k' x' e h1 h2 => ?_⟩
              by_cases hi : i < es.length
              · rw [List.getElem?_append_left hi] at h1
                have h2' : en[i]? = some e := by
                  rw [Array.getElem?_push] at h2
                  split at h2
                  · omega
                  · exact h2
                obtain ⟨a, b⟩ := e3 i k' x' e h1 h2'
                exact ⟨a.mono hES (fun _ h => h) fun _ _ h => h, b.mono hES (fun _ h => h) fun _ _ h => h⟩
              · have hie : i = es.length := by
                  have := (List.getElem?_eq_some_iff.1 h1).1
                  simp at this; omega
                subst hie
                rw [List.getElem?_append_right (Nat.le_refl _)] at h1
                simp only [Nat.sub_self, List.getElem?_cons_zero, Option.some.injEq, Prod.mk.injEq] at h1
                obtain ⟨rfl, rfl⟩ := h1
                rw [Array.getElem?_push, if_pos e2.symm] at h2
                simp only [Option.some.injEq] at h2
                subst h2
                exact ⟨hk.mono hES (fun _ h => h) fun _ _ h => h, hy.mono hES (fun _ h => h) fun _ _ h => h⟩
          · cases hcc
        · cases h
      · cases h
    · cases h
  · cases h

theorem aMapUpdate_W {ti : TI} {hc : Heap} {x k y v : AV} {c : Cls} {u : Upd} (h : aMapUpdate ti hc x k y = some (c, v, u)) : c = .W := by
  unfold aMapUpdate at h
  repeat' split at h
  all_goals first | (simp only [Option.some.injEq, Prod.mk.injEq] at h; exact h.1.symm) | cases h

theorem aLookup_P {ti : TI} {hc : Heap} {n0 : Nat} {x k v : AV} {ok : Bool} {c : Cls} {u : Upd} (h : aLookup ti hc n0 x k ok = some (c, v, u)) : c ≠ .P ∧ u = [] := by
  have hc : ∀ n0 a, rdCls n0 a ≠ .P := fun n0 a => by unfold rdCls; split <;> simp
  unfold aLookup at h
  split at h
  · dsimp only at h
    split at h
    · split at h
      · split at h
        · simp only [Option.some.injEq, Prod.mk.injEq] at h; exact ⟨h.1 ▸ hc _ _, h.2.2.symm⟩
        · simp only [Option.some.injEq, Prod.mk.injEq] at h; exact ⟨h.1 ▸ hc _ _, h.2.2.symm⟩
        · cases h
      · cases h
    · cases h
  · cases h

theorem makeMap_ok {t : TypeId} {s : Nat} (hs : m s = none) (hr : Rel w S F m g) :
    ∃ v' w' p, (Instr.makeMap t none).run P w = .ok v' w' ∧ Ext (fun k => S k ∨ F k) w w' ∧ VR w' S (setm m s p) (.mp s) v' ∧ Rel w' S F (setm m s p) (upds g [(s, some (.map []))]) := by
  have hE := ext_alloc w (.map #[] 0)
  refine ⟨.map (some w.heap.size), w.alloc (.map #[] 0), ⟨w.heap.size, 0, 0, 0, 0⟩, rfl, hE.old hr, .mp s _ setm_same, ?_⟩
  refine hr.birth hs hE (Nat.le_refl _) ?_ ⟨#[], 0, alloc_new w _, rfl, fun i k x e h => by simp at h⟩
  show w.heap.size < (w.heap.push _).size
  simp

theorem aop_sound (hT : TabOK P Θ) {o : Oper} {t : Fr} {a : Act} {hc : Heap} {n0 s : Nat} {c : Cls} {v : AV} {u : Upd} (h : aop Θ o.op t hc n0 s = some (c, v, u))
    (hev : ∀ x ∈ o.op.operands, EV w S m t a x) (hg : ∀ b o p, c ≠ .P → (c = .L → b < n0) → m b = some p → hc b = some o → g b = some o) (hs : m s = none) (hr : Rel w S F m g) : Post P o a w S F m g s v u := by
  have hcont : c ≠ .P → ∀ b o p, (c = .L → b < n0) → hc b = some o → m b = some p → CR w S m p o := fun hP b o p hb hh hm => hr.content b o p (hg b o p hP hb hm hh) hm
  obtain ⟨dst, op, type, pos, after, guard⟩ := o
  cases op <;> simp only [aop, reduceCtorEq] at h
  case move x =>
    obtain ⟨h1, _, hu⟩ := P1_inv h
    exact .pure hr hu rfl (hev x (by simp [Op.operands]) _ h1)
  case assign x =>
    obtain ⟨h1, _, hu⟩ := P1_inv h
    exact .pure hr hu rfl (hev x (by simp [Op.operands]) _ h1)
  case pick x y z =>
    split at h
    · rename_i b a1 a2 h1 h2 h3
      obtain ⟨h4, _, hu⟩ := P1_inv h
      simp only [Option.some.injEq] at h4
      have hb := hev x (by simp [Op.operands]) _ h1
      generalize hxv : a.eval x = xv at hb
      cases hb
      refine .pure (v' := if b then a.eval y else a.eval z) hr hu (by simp [execOp, hxv, asBool]) ?_
      cases b
      · simp at h4 ⊢; subst h4; exact hev z (by simp [Op.operands]) _ h3
      · simp at h4 ⊢; subst h4; exact hev y (by simp [Op.operands]) _ h2
    · cases h
  case alloc ty =>
    split at h
    · rename_i ti hti
      obtain ⟨v', w', p, h1, h2⟩ := alloc_ok (hT ty ti hti) h hs hr
      exact .born hs ⟨v', w', p, by simp [execOp, h1], h2⟩
    · cases h
  case box ty x =>
    split at h
    · rename_i a1 h1
      obtain ⟨v', w', p, h2, h3⟩ := box_ok (P := P) (t := ty) h (hev x (by simp [Op.operands]) _ h1) hs hr
      exact .born hs ⟨v', w', p, by simp [execOp, h2], h3⟩
    · cases h
  case build ty ps =>
    split at h
    · rename_i ti as hti h1
      have hp := evp_ok (w := w) (S := S) (m := m) (a := a) (fun x hx => hev x.2 (by simp only [Op.operands, List.mem_toArray, List.mem_map]; exact ⟨x, hx, rfl⟩)) h1
      obtain ⟨d, hund, hrow, hkind⟩ := (hT ty ti hti).und
      obtain ⟨i, z, hi, hiz, hz, hzc⟩ := (hT ty ti hti).info
      have hpl : (ps.map fun x => (x.1, a.eval x.2)).toList = ps.toList.map fun p => (p.1, a.eval p.2) := by simp
      unfold aBuild at h
      split at h
      · rename_i fs hk
        rw [hk] at hkind
        obtain ⟨fields, hd, hlen, hall⟩ := hkind
        subst hd
        split at h
        · rename_i cs hf
          simp only [Option.some.injEq, Prod.mk.injEq] at h
          obtain ⟨_, hv, hu⟩ := h
          subst hv
          have hpls := fields_places (P := P) (fs := fs) (fields := fields.toList) (by simpa using hlen) (fun j o s g hj => by
            obtain ⟨f, i, d', k1, k2, k3, k4, _⟩ := hall j o s g hj
            exact ⟨f, i, by simpa using k1, k2, k3, k4⟩)
          obtain ⟨vs', k1, k2⟩ := fill_ok (place' := fun i => (fs.map fun f => (f.1, f.2.1)).toArray[i]?) (fun i o s hh => by simpa using hh) as _ ti.zero cs z.cells.toList hp (hzc w S m) hf
          refine .pure hr hu.symm (v' := .agg ⟨vs'⟩) ?_ (.agg _ _ k2.1 k2.2)
          have hb : P.built ty (ps.map fun x => (x.1, a.eval x.2)).toList = some ⟨vs'⟩ := by
            rw [hpl]; simp only [Program.built, hi, hund, hz, hpls]; exact k1
          simp only [execOp, Sem.run_bind]
          rw [run_build w ty _ _ hb]; rfl
        · cases h
      · rename_i n esz gg hk
        rw [hk] at hkind
        obtain ⟨e, ei, d', hd, hei, heis, _⟩ := hkind
        subst hd
        split at h
        · rename_i cs hf
          simp only [Option.some.injEq, Prod.mk.injEq] at h
          obtain ⟨_, hv, hu⟩ := h
          subst hv
          obtain ⟨vs', k1, k2⟩ := fill_ok (place' := fun i => some (i * esz, esz)) (fun i o s hh => hh) as _ ti.zero cs z.cells.toList hp (hzc w S m) hf
          refine .pure hr hu.symm (v' := .agg ⟨vs'⟩) ?_ (.agg _ _ k2.1 k2.2)
          have hb : P.built ty (ps.map fun x => (x.1, a.eval x.2)).toList = some ⟨vs'⟩ := by
            rw [hpl]; simp only [Program.built, hi, hund, hz, hei, heis]; exact k1
          simp only [execOp, Sem.run_bind]
          rw [run_build w ty _ _ hb]; rfl
        · cases h
      · cases h
    · cases h
  case buildSlice ty len ps =>
    split at h
    · rename_i ti as hti h1
      have hp := evp_ok (w := w) (S := S) (m := m) (a := a) (fun x hx => hev x.2 (by simp only [Op.operands, List.mem_toArray, List.mem_map]; exact ⟨x, hx, rfl⟩)) h1
      obtain ⟨v', w', m', h2, h3, h4, h5, h6, h7⟩ := buildSlice_ok (hT ty ti hti) h hp hs hr
      refine ⟨v', w', m', .inl ?_, h3, h4, h5, h6, h7⟩
      have : (ps.map fun x => (x.1, a.eval x.2)) = (ps.toList.map fun p => (p.1, a.eval p.2)).toArray := by apply Array.ext'; simp
      simp only [execOp, Sem.run_bind]
      rw [this, h2]; rfl
    · cases h
  case load ty x =>
    split at h
    · rename_i ti a1 hti h1
      have hP := aLoad_P h
      obtain ⟨hu, v', h2, h3⟩ := load_ok (hT ty ti hti) h (hev x (by simp [Op.operands]) _ h1) (hcont hP)
      exact .pure hr hu (by simp [execOp, h2]) h3
    · cases h
  case store ty x y =>
    split at h
    · rename_i ti a1 a2 hti h1 h2
      have hW := aStore_W h
      obtain ⟨hv, w', h3, h4, h5⟩ := store_ok (hT ty ti hti) h (hev x (by simp [Op.operands]) _ h1) (hev y (by simp [Op.operands]) _ h2) (fun b o p hm hh => hg b o p (by rw [hW]; simp) (by rw [hW]; simp) hm hh) hr
      subst hv
      exact ⟨undef, w', m, .inr ⟨by simp [execOp, h3], rfl⟩, h4, fun _ _ h => h, fun _ _ => rfl, .tup [] [] rfl (fun i c v h => by simp at h), h5⟩
    · cases h
  case makeMap ty r =>
    split at h
    · rename_i hn
      simp only [Option.some.injEq, Prod.mk.injEq] at h
      obtain ⟨_, rfl, rfl⟩ := h
      obtain ⟨v', w', p, h1, h2⟩ := makeMap_ok (P := P) (t := ty) hs hr
      cases r with
      | none => exact .born hs ⟨v', w', p, by simp [execOp, h1], h2⟩
      | some _ => simp at hn
    · cases h
  case lookup ty x k ok =>
    split at h
    · rename_i ti a1 a2 hti h1 h2
      have hP := (aLookup_P h).1
      obtain ⟨hu, v', h3, h4⟩ := lookup_ok (hT ty ti hti) h (hev x (by simp [Op.operands]) _ h1) (hev k (by simp [Op.operands]) _ h2) (hcont hP)
      exact .pure hr hu (by simp [execOp, h3]) h4
    · cases h
  case mapUpdate ty x k y =>
    split at h
    · rename_i ti a1 a2 a3 hti h1 h2 h3
      have hW := aMapUpdate_W h
      obtain ⟨hv, w', h4, h5, h6⟩ := mapUpdate_ok (hT ty ti hti) h (hev x (by simp [Op.operands]) _ h1) (hev k (by simp [Op.operands]) _ h2) (hev y (by simp [Op.operands]) _ h3) (fun b o p hm hh => hg b o p (by rw [hW]; simp) (by rw [hW]; simp) hm hh) hr
      subst hv
      exact ⟨undef, w', m, .inr ⟨by simp [execOp, h4], rfl⟩, h5, fun _ _ h => h, fun _ _ => rfl, .tup [] [] rfl (fun i c v h => by simp at h), h6⟩
    · cases h
  case nilCheck x =>
    split at h
    · rename_i b i off h1
      obtain ⟨h4, _, hu⟩ := P1_inv h
      simp only [Option.some.injEq] at h4; subst h4
      have hb := hev x (by simp [Op.operands]) _ h1
      generalize hxv : a.eval x = xv at hb
      refine .pure (v' := xv) hr hu ?_ hb
      cases hb; simp [execOp, hxv]
    · rename_i cs off h1
      obtain ⟨h4, _, hu⟩ := P1_inv h
      simp only [Option.some.injEq] at h4; subst h4
      have hb := hev x (by simp [Op.operands]) _ h1
      generalize hxv : a.eval x = xv at hb
      refine .pure (v' := xv) hr hu ?_ hb
      cases hb; simp [execOp, hxv]
    · rename_i f cs h1
      obtain ⟨h4, _, hu⟩ := P1_inv h
      simp only [Option.some.injEq] at h4; subst h4
      have hb := hev x (by simp [Op.operands]) _ h1
      generalize hxv : a.eval x = xv at hb
      refine .pure (v' := xv) hr hu ?_ hb
      cases hb; simp [execOp, hxv]
    · cases h
  case binOp op ty x y ty2 =>
    split at h
    · rename_i a1 a2 h1 h2
      obtain ⟨h4, _, hu⟩ := P1_inv h
      have hbn : ∃ v', (do eqGuard op ty x y (a.eval x) (a.eval y); binOp op ty (a.eval x) (a.eval y) : Sem Value).run P w = .ok v' w ∧ VR w S m v v' := by
        cases hb : aBin Θ op ty a1 a2 with
        | some v1 =>
          rw [hb] at h4
          have h4 : some v1 = some v := h4
          rw [h4] at hb
          exact bin_ok (P := P) (ox := x) (oy := y) hT hb (hev x (by simp [Op.operands]) _ h1) (hev y (by simp [Op.operands]) _ h2)
        | none =>
          rw [hb] at h4
          exact nil_ok (P := P) (ox := x) (oy := y) hT h4 (hev x (by simp [Op.operands]) _ h1) fun c hc => by rw [hc]; rfl
      obtain ⟨v', h5, h6⟩ := hbn
      refine .pure hr hu ?_ h6
      simp only [execOp]
      rw [Sem.run_bind, h5]; rfl
    · cases h
  case unOp op ty x =>
    split at h
    · rename_i a1 h1
      obtain ⟨h4, _, hu⟩ := P1_inv h
      obtain ⟨v', h5, h6⟩ := un_ok (P := P) h4 (hev x (by simp [Op.operands]) _ h1)
      exact .pure hr hu (by simp [execOp, h5]) h6
    · cases h
  case convert src dst' x =>
    split at h
    · rename_i a1 ti h1 hti
      obtain ⟨h4, _, hu⟩ := P1_inv h
      obtain ⟨d, hund, _⟩ := (hT src ti hti).und
      obtain ⟨v', h5, h6⟩ := conv_ok hT hund h4 (hev x (by simp [Op.operands]) _ h1)
      exact .pure hr hu (by simp [execOp, h5]) h6
    · cases h
  case makeFunc fn first caps =>
    split at h
    · rename_i f
      split at h
      · rename_i hf
        split at h
        · rename_i cs h1
          obtain ⟨h4, _, hu⟩ := P1_inv h
          simp only [Option.some.injEq] at h4; subst h4
          have hL := evs_ok (w := w) (S := S) (m := m) (a := a) (fun x hx => hev x (by simp only [Op.operands, Array.mem_append]; exact .inr (by simpa using hx))) h1
          have hf0 : first = #[] := by simpa using hf
          refine .pure hr hu (v' := .func (.func f) #[] ⟨caps.toList.map a.eval⟩) ?_ (.fn f cs _ hL.1 hL.2)
          simp [execOp, Instr.makeFunc, hf0]
          apply Array.ext'; simp
        · cases h
      · cases h
    · cases h
  case makeSlice ty x y =>
    split at h
    · rename_i ti a1 a2 hti h1 h2
      obtain ⟨v', w', p, h3, h4⟩ := make_ok (hT ty ti hti) h (hev x (by simp [Op.operands]) _ h1) (hev y (by simp [Op.operands]) _ h2) hs hr
      exact .born hs ⟨v', w', p, by simp [execOp, h3], h4⟩
    · cases h
  case slice ty x lo hi mx =>
    split at h
    · rename_i ti a1 hti h1
      split at h
      · rename_i lo' hi' mx' h2 h3 h4
        have ov : ∀ (q : Option Operand) (r : Option AV), (∀ z, q = some z → EV w S m t a z) → (match q with | none => some none | some o => (ev t o).map some) = some r → OV w S m r (q.map a.eval) := by
          intro q r hq hh
          cases q with
          | none => simp at hh; subst hh; trivial
          | some z =>
            simp only [Option.map_eq_some_iff] at hh
            obtain ⟨b, hb, rfl⟩ := hh
            exact hq z rfl _ hb
        obtain ⟨hu, v', h5, h6⟩ := slice_ok (hT ty ti hti) h (hev x (by simp [Op.operands]) _ h1) (ov lo lo' (fun z hz => hev z (by subst hz; simp [Op.operands])) h2)
          (ov hi hi' (fun z hz => hev z (by subst hz; simp [Op.operands])) h3) (ov mx mx' (fun z hz => hev z (by subst hz; simp [Op.operands])) h4)
        exact .pure hr hu (by simp [execOp, h5]) h6
      · cases h
    · cases h
  case fieldAddr ty x f =>
    split at h
    · rename_i ti a1 hti h1
      obtain ⟨hu, v', h5, h6⟩ := field_ok (hT ty ti hti) h (hev x (by simp [Op.operands]) _ h1)
      exact .pure hr hu (by simp [execOp, h5]) h6
    · cases h
  case field ty x f =>
    split at h
    · rename_i ti a1 hti h1
      obtain ⟨hu, v', h5, h6⟩ := fieldV_ok (hT ty ti hti) h (hev x (by simp [Op.operands]) _ h1)
      exact .pure hr hu (by simp [execOp, h5]) h6
    · cases h
  case indexAddr ty x ix =>
    split at h
    · rename_i ti a1 a2 hti h1 h2
      obtain ⟨hu, v', h5, h6⟩ := indexAddr_ok (hT ty ti hti) h (hev x (by simp [Op.operands]) _ h1) (hev ix (by simp [Op.operands]) _ h2)
      exact .pure hr hu (by simp [execOp, h5]) h6
    · cases h
  case index ty x ix =>
    split at h
    · rename_i ti a1 a2 hti h1 h2
      obtain ⟨hu, v', h5, h6⟩ := index_ok (hT ty ti hti) h (hev x (by simp [Op.operands]) _ h1) (hev ix (by simp [Op.operands]) _ h2)
      exact .pure hr hu (by simp [execOp, h5]) h6
    · cases h
  case extract x i =>
    split at h
    · rename_i cs h1
      obtain ⟨h4, _, hu⟩ := P1_inv h
      obtain ⟨v', h5, h6⟩ := extract_ok (P := P) h4 (hev x (by simp [Op.operands]) _ h1)
      exact .pure hr hu (by simp [execOp, h5]) h6
    · cases h
  case call cl =>
    split at h
    · rename_i b hcal
      split at h
      · rename_i as h1
        have hL := evs_ok (w := w) (S := S) (m := m) (a := a) (fun x hx => hev x (by simp only [Op.operands, Call.operands, Array.mem_append]; exact .inr (by simpa using hx))) h1
        have hargs : cl.args.map a.eval = (cl.args.toList.map a.eval).toArray := by apply Array.ext'; simp
        generalize cl.args.toList.map a.eval = vs at hL hargs
        unfold aBuiltin at h
        split at h
        · split at h
          · rename_i x ti hti
            cases hts : cl.argTypes[0]? with
            | none => simp [hts] at hti
            | some t0 =>
            simp only [hts, Option.bind_some] at hti
            split at h
            · rename_i hlt
              match vs, hL with
              | [xv], hL =>
              obtain ⟨hu, v', h5, h6⟩ := len_ok (P := P) (ty := type) (hT t0 ti hti) hlt h (hL.2 0 _ _ rfl rfl)
              refine .pure hr hu (v' := v') ?_ h6
              have hlen : ∀ ts : Array TypeId, ts[0]? = some t0 → (Builtin.len_ ts type #[xv]).run P w = (Builtin.len_ #[t0] type #[xv]).run P w := fun ts hh => by
                simp only [Builtin.len_, hh]; rfl
              simp only [execOp, resolve, hcal, hargs, Sem.run_bind, Sem.run_pure, Result.andThen_ok, invoke, builtin]
              rw [hlen _ hts, h5]; rfl
            · cases h
          · cases h
        · split at h
          · rename_i x y ti ti2 hti hti2
            cases hts : cl.argTypes[0]? with
            | none => simp [hts] at hti
            | some t0 =>
            cases hts2 : cl.argTypes[1]? with
            | none => simp [hts2] at hti2
            | some t1 =>
            simp only [hts, Option.bind_some] at hti
            simp only [hts2, Option.bind_some] at hti2
            split at h
            · rename_i k1 k2 k3 hk2
              match vs, hL with
              | [xv, yv], hL =>
              have happ : ∀ ts : Array TypeId, ts[0]? = some t0 → ts[1]? = some t1 → (Builtin.append_ ts type #[xv, yv]).run P w = (Builtin.append_ #[t0, t1] type #[xv, yv]).run P w := fun ts hh hh2 => by
                simp only [Builtin.append_, hh, hh2]; rfl
              have hx := hL.2 0 _ _ rfl rfl
              have hy := hL.2 1 _ _ rfl rfl
              obtain ⟨v', w', m', h5, h6, h7, h8, h9, h10⟩ := append_ok (ty := type) (hT t0 ti hti) (hT t1 ti2 hti2) hk2 h hx hy hg hs hr
              refine ⟨v', w', m', .inl ?_, h6, h7, h8, h9, h10⟩
              simp only [execOp, resolve, hcal, hargs, Sem.run_bind, Sem.run_pure, Result.andThen_ok, invoke, builtin]
              rw [happ _ hts hts2, h5]; rfl
            · cases h
          · cases h
        · obtain ⟨h4, _, hu⟩ := P1_inv h
          obtain ⟨v', h5, h6⟩ := min_ok (P := P) (ts := cl.argTypes) (ty := type) hL h4
          refine .pure hr hu (v' := v') ?_ h6
          simp only [execOp, resolve, hcal, hargs, Sem.run_bind, Sem.run_pure, Result.andThen_ok, invoke, builtin]
          rw [h5]; rfl
        · cases h
      · cases h
    · cases h

end
end Go.Av

/-
  Values with what they lead to laid in. Conditions: none.
-/
namespace Go.Av

theorem mapM_get {α β : Type} {f : α → Option β} : ∀ {l : List α} {l' : List β}, l.mapM f = some l' → l'.length = l.length ∧ ∀ (i : Nat) (x : α), l[i]? = some x → ∃ y, l'[i]? = some y ∧ f x = some y
  | [], l', h => by simp at h; subst h; exact ⟨rfl, fun i x h => by simp at h⟩
  | a :: l, l', h => by
    rw [List.mapM_cons] at h
    cases hf : f a with
    | none => simp [hf] at h
    | some b =>
      cases hr : l.mapM f with
      | none => simp [hf, hr] at h
      | some r =>
        simp [hf, hr] at h; subst h
        obtain ⟨h1, h2⟩ := mapM_get hr
        refine ⟨by simp [h1], fun i x hx => ?_⟩
        cases i with
        | zero => simp at hx; subst hx; exact ⟨b, rfl, hf⟩
        | succ i => simp at hx; exact h2 i x hx

section
variable {P : Program} {w : World} {S F : Nat → Prop} {m : Pm} {g : Heap} {Θ : Tab}

theorem rf_scal {fr : Bool} {d : Nat} {h : Heap} {a a' : AV} (hf : rf fr d h a = some a') (hs : scal a = true) : scal a' = true := by
  cases d with
  | zero => simp [rf] at hf
  | succ d =>
    cases a <;> simp only [rf, reduceCtorEq, Option.some.injEq] at hf <;> simp only [scal, Bool.false_eq_true] at hs <;> (try (subst hf; rfl))
    all_goals (repeat' split at hf) <;> simp_all <;> (first | (subst hf; rfl) | skip)

/-- What a frozen value leads to: what was frozen already, and the live blocks. -/
def SF (fr : Bool) (S : Nat → Prop) (h : Heap) (m : Pm) : Nat → Prop := fun k => (fr = true ∧ S k) ∨ ∃ b o p, h b = some o ∧ m b = some p ∧ k = p.blk

theorem rf_all (fr : Bool) (h : Heap) (hcont : ∀ b o p, h b = some o → m b = some p → CR w S m p o) : ∀ d : Nat,
    (∀ a a' v, rf fr d h a = some a' → VR w S m a v → VR w (SF fr S h m) (fun _ => none) a' v) ∧
    (∀ cs cs' vs, rfs fr d h cs = some cs' → LR w S m cs vs → LR w (SF fr S h m) (fun _ => none) cs' vs) ∧
    (∀ es es', rfe fr d h es = some es' → es'.length = es.length ∧ ∀ (i : Nat) (e : List AV), es[i]? = some e → ∃ e', es'[i]? = some e' ∧ e'.length = e.length ∧ (e.all scal = true → e'.all scal = true) ∧
      ∀ vs, LR w S m e vs → LR w (SF fr S h m) (fun _ => none) e' vs) := by
  intro d
  induction d with
  | zero => exact ⟨fun a a' v h => by simp [rf] at h, fun cs cs' vs h => by simp [rfs] at h, fun es es' h => by simp [rfe] at h⟩
  | succ d ih =>
    obtain ⟨ih1, ih2, ih3⟩ := ih
    have hs : ∀ cs cs', rfs fr d h cs = some cs' → cs'.length = cs.length ∧ (cs.all scal = true → cs'.all scal = true) := by
      intro cs cs' hh
      cases d with
      | zero => simp [rfs] at hh
      | succ d =>
        simp only [rfs] at hh
        obtain ⟨k1, k2⟩ := mapM_get hh
        refine ⟨k1, fun ha => List.all_eq_true.2 fun x hx => ?_⟩
        obtain ⟨i, hi, rfl⟩ := List.mem_iff_getElem.1 hx
        have hi' : i < cs.length := by omega
        obtain ⟨y, hy, hy'⟩ := k2 i cs[i] (by simp [hi'])
        have : cs'[i] = y := by simpa [hi] using hy
        rw [this]
        exact rf_scal hy' (List.all_eq_true.1 ha _ (List.getElem_mem _))
    refine ⟨fun a a' v hf hv => ?_, fun cs cs' vs hf hl => ?_, fun es es' hf => ?_⟩
    · cases hv <;> simp only [rf, reduceCtorEq] at hf
      case any => simp at hf; subst hf; exact .any _
      case bool => simp at hf; subst hf; exact .bool _
      case int => simp at hf; subst hf; exact .int _ _
      case str => simp at hf; subst hf; exact .str _
      case nilp => simp at hf; subst hf; exact .nilp
      case nilf => simp at hf; subst hf; exact .nilf
      case nili => simp at hf; subst hf; exact .nili
      case nils a => simp at hf; subst hf; exact .ron a 0
      case nilm => simp at hf; subst hf; exact .nilm
      case ptr b i off p hm =>
        split at hf
        · rename_i es hb
          split at hf
          · rename_i e he
            split at hf
            · rename_i e' he'
              simp only [Option.some.injEq] at hf; subst hf
              have hC := hcont b _ p hb hm
              obtain ⟨us, hl, hat⟩ := hC.seg he 0 e.length (by omega)
              simp only [List.drop_zero, List.take_length] at hl
              have hl' := ih2 _ _ _ he' hl
              have key : ∀ (j : Nat) (c : AV), e'[j]? = some c → us[j]? = some ((us[j]?).getD undef) := by
                intro j c hj
                obtain ⟨u, hu, _⟩ := hl'.get hj
                simp [hu]
              have hadd : (⟨p.blk, p.off + i * p.sz + off, none⟩ : Addr) = ⟨p.blk, p.off + i * p.sz + off, none⟩ := rfl
              refine .rp e' off p.blk (p.off + i * p.sz) (fun j => (us[j]?).getD undef) (.inr ⟨b, _, p, hb, hm, rfl⟩) (fun j c hj => ?_) (fun j c hj => hl'.2 j c _ hj (key j c hj))
              have := hat j _ (key j c hj)
              simpa using this
            · cases hf
          · cases hf
        · cases hf
      case rp cells off blk o us hS hc hr =>
        split at hf
        · rename_i hfr
          simp only [Option.some.injEq] at hf; subst hf
          exact .rp cells off blk o us (.inl ⟨hfr, hS⟩) hc (fun j c hj => (hr j c hj).mono (Ext.refl _ _) (fun k hk => .inl ⟨hfr, hk⟩) (fun _ _ h => h))
        · cases hf
      case sl b off len cap p h1 h2 h3 h4 hm =>
        split at hf
        · rename_i es hb
          split at hf
          · rename_i hle
            split at hf
            · rename_i es' he'
              simp only [Option.some.injEq] at hf; subst hf
              obtain ⟨k1, k2⟩ := ih3 _ _ he'
              obtain ⟨arr, ty, c1, c2, c3, c4, c5⟩ := (hcont b _ p hb hm).er
              have hE := (c5.drop off).take len
              have hlen : es'.length = len := by rw [k1]; simp; omega
              have hroom := Nat.mul_le_mul_right p.sz c3
              -- the cells, by element and place
              generalize hus : ((((arr.toList.drop p.off).take (p.ext * p.sz)).drop (off * p.sz)).take (len * p.sz)) = us at hE
              have back : ∀ (i : Nat) (e' : List AV), es'[i]? = some e' → i < len ∧ ∃ e, ((es.drop off).take len)[i]? = some e ∧ e'.length = p.sz ∧ e'.all scal = true ∧
                  LR w (SF fr S h m) (fun _ => none) e' ((us.drop (i * p.sz)).take p.sz) := by
                intro i e' hi
                have hil : i < len := by rw [← hlen]; exact (List.getElem?_eq_some_iff.1 hi).1
                have hil' : i < ((es.drop off).take len).length := by rw [← k1]; omega
                obtain ⟨e2, he2, l1, l2, l3⟩ := k2 i _ (List.getElem?_eq_getElem hil')
                rw [hi] at he2; cases he2
                obtain ⟨m1, m2, m3⟩ := hE.each i _ (List.getElem?_eq_getElem hil')
                exact ⟨hil, _, List.getElem?_eq_getElem hil', by rw [l1, m1], l2 m2, l3 _ m3⟩
              have cellv : ∀ i j c, getc es' i j = some c → ∃ u, us[i * p.sz + j]? = some u ∧ VR w (SF fr S h m) (fun _ => none) c u := by
                intro i j c hg
                unfold getc at hg
                cases he : es'[i]? with
                | none => simp [he] at hg
                | some e' =>
                  simp [he] at hg
                  obtain ⟨_, _, _, hz, _, hL⟩ := back i e' he
                  obtain ⟨u, hu, hr⟩ := hL.get hg
                  have hj : j < p.sz := by rw [← hz]; exact (List.getElem?_eq_some_iff.1 hg).1
                  rw [List.getElem?_take, if_pos hj, List.getElem?_drop] at hu
                  exact ⟨u, hu, hr⟩
              have lies : ∀ k u, us[k]? = some u → w.cell? ⟨p.blk, p.off + off * p.sz + k, none⟩ = some u := by
                intro k u hk
                rw [← hus, List.getElem?_take] at hk
                split at hk
                · rw [List.getElem?_drop, List.getElem?_take] at hk
                  split at hk
                  · rw [List.getElem?_drop, getElem?_toList] at hk
                    rw [cell?_cells c1, show p.off + off * p.sz + k = p.off + (off * p.sz + k) by omega]; exact hk
                  · cases hk
                · cases hk
              have := VR.ro (w := w) (S := SF fr S h m) (m := fun _ => none) es' p.blk (p.off + off * p.sz) p.sz cap (fun i j => (us[i * p.sz + j]?).getD undef) (.inr ⟨b, _, p, hb, hm, rfl⟩)
                (fun i e' hi => by obtain ⟨_, _, _, hz, hsc, _⟩ := back i e' hi; exact ⟨hz, hsc⟩) (by omega)
                (fun i j c hg => by
                  obtain ⟨u, hu, _⟩ := cellv i j c hg
                  have := lies _ _ hu
                  rw [hu, show p.off + off * p.sz + i * p.sz + j = p.off + off * p.sz + (i * p.sz + j) by omega, this]; rfl)
                (fun i j c hg => by obtain ⟨u, hu, hr⟩ := cellv i j c hg; rw [hu]; exact hr)
              rw [hlen] at this
              exact this
            · cases hf
          · cases hf
        · cases hf
      case ron a cap =>
        split at hf
        · simp only [Option.some.injEq] at hf; subst hf; exact .ron a cap
        · cases hf
      case ro es blk o sz cap us hS hz hcap hc hr =>
        split at hf
        · rename_i hor
          simp only [Option.some.injEq] at hf; subst hf
          by_cases hfr : fr = true
          · exact .ro es blk o sz cap us (.inl ⟨hfr, hS⟩) hz hcap hc (fun i j c hj => (hr i j c hj).mono (Ext.refl _ _) (fun k hk => .inl ⟨hfr, hk⟩) (fun _ _ h => h))
          · have he : es = [] := hor.resolve_left hfr
            subst he
            exact .ron _ _
        · cases hf
      case fn f caps vs hl hr =>
        split at hf
        · rename_i cs' hcs
          simp only [Option.some.injEq] at hf; subst hf
          have := ih2 _ _ _ hcs ⟨hl, hr⟩
          exact .fn f cs' vs this.1 this.2
        · cases hf
      case agg caps vs hl hr =>
        split at hf
        · rename_i cs' hcs
          simp only [Option.some.injEq] at hf; subst hf
          have := ih2 _ _ _ hcs ⟨hl, hr⟩
          exact .agg cs' vs this.1 this.2
        · cases hf
      case tup caps vs hl hr =>
        split at hf
        · rename_i cs' hcs
          simp only [Option.some.injEq] at hf; subst hf
          have := ih2 _ _ _ hcs ⟨hl, hr⟩
          exact .tup cs' vs this.1 this.2
        · cases hf
    · simp only [rfs] at hf
      obtain ⟨k1, k2⟩ := mapM_get hf
      refine ⟨by rw [k1]; exact hl.1, fun i c v hc hv => ?_⟩
      have hi : i < cs.length := by rw [← k1]; exact (List.getElem?_eq_some_iff.1 hc).1
      obtain ⟨y, hy, hy'⟩ := k2 i cs[i] (by simp [hi])
      rw [hc] at hy; cases hy
      exact ih1 _ _ _ hy' (hl.2 i cs[i] v (by simp [hi]) hv)
    · simp only [rfe] at hf
      obtain ⟨k1, k2⟩ := mapM_get hf
      refine ⟨k1, fun i e he => ?_⟩
      obtain ⟨e', he', hrf⟩ := k2 i e he
      obtain ⟨l1, l2⟩ := hs _ _ hrf
      exact ⟨e', he', l1, l2, fun vs hl => ih2 _ _ _ hrf hl⟩

end
end Go.Av

/-
  What is shown of a run: statements; one operation, calls among them. Conditions: none.
-/
namespace Go.Av

/-- How the model's end fits. -/
def ExR : AEx → Exit → Prop
  | .normal, .normal => True
  | .exit i, .exit j => i = j
  | .goto i, .goto j => i = j
  | .ret, .ret => True
  | _, _ => False

/-- From one world to a later one. -/
structure St (w : World) (S F : Nat → Prop) (m : Pm) (n : Nat) (w' : World) (S' : Nat → Prop) (m' : Pm) (n' : Nat) : Prop where
  ext : Ext (fun k => S k ∨ F k) w w'
  grow : ∀ k, S k → S' k
  new : ∀ k, S' k → S k ∨ w.heap.size ≤ k
  le : ∀ b p, m b = some p → m' b = some p
  old : ∀ b, b < n → m' b = m b
  free : ∀ b, n' ≤ b → m' b = none

def FnIn (P : Program) (f : FuncId) : Prop := ∃ fn, P.funcs[f]? = some fn ∧ fn.body.isSome = true ∧ fn.name ≠ "runtime.NumGoroutine"

def FnS (P : Program) (f : FuncId) (args : List AV) (h : Heap) (n : Nat) (res : AV) (h' : Heap) (n' : Nat) : Prop :=
  (n ≤ n' ∧ (∀ b, b < n → h b = none → h' b = none) ∧ ((∀ b, n ≤ b → h b = none) → ∀ b, n' ≤ b → h' b = none)) ∧ FnIn P f ∧ ∀ (w : World) (S F : Nat → Prop) (m : Pm) (vs : List Value), (∀ b, n ≤ b → h b = none) → Rel w S F m h → LR w S m args vs → (∀ b, n ≤ b → m b = none) →
    Calls P f vs.toArray w fun e w' => ∃ v S' m', e = .returned v ∧ St w S F m n w' S' m' n' ∧ VR w' S' m' res v ∧ Rel w' S' F m' h'

/-- May the heap be changed so by an operation of this class? -/
def updOK (c : Cls) (n0 s : Nat) (h : Heap) (u : Upd) : Prop := ∀ x ∈ u, (x.1 = s ∧ x.2 ≠ none) ∨ (c = .F ∧ n0 ≤ x.1 ∧ x.2 = none ∧ h x.1 ≠ none)

structure OpS1 (P : Program) (N : Nat) (ops : Array Oper) (n0 i : Nat) (σ : OS) (c : Cls) (σ' : OS) (o : Oper) (v : AV) (u : Upd) : Prop where
  op : ops[i]? = some o
  dst : inN N o.dst = true
  t : σ'.t = put σ.t o.dst v
  x : σ.x ≤ σ'.x
  quiet : c ≠ .W → σ'.x = σ.x ∧ σ'.h = upds σ.h u ∧ updOK c n0 (n0 + i) σ.h u
  pure : c = .P → u = []
  res : ∀ b, b ≠ n0 + i → b < σ.x → σ.h b = none → σ'.h b = none
  free : (∀ b, σ.x ≤ b → σ.h b = none) → n0 + i < σ.x → ∀ b, σ'.x ≤ b → σ'.h b = none
  sim : ∀ (w : World) (S F : Nat → Prop) (m : Pm) (a : Act) (g : Heap), Rel w S F m g → (∀ b o p, c ≠ .P → (c = .L → b < n0) → m b = some p → σ.h b = some o → g b = some o) →
      (∀ x, x ∈ o.looksAt ops → VR w S m (σ.t x) (a.tmps.getD x undef)) → m (n0 + i) = none → (c = .W → ∀ b, σ.x ≤ b → m b = none) → (∀ b, σ.x ≤ b → σ.h b = none) → n0 + i < σ.x →
      ∀ (Q : Exit → Act → World → Prop) (K : Act → World → Prop),
        (∀ v' w' S' m', Ext (fun k => S k ∨ F k) w w' → (∀ k, S k → S' k) → (∀ k, S' k → S k ∨ w.heap.size ≤ k) → (∀ b p, m b = some p → m' b = some p) →
          (c ≠ .W → ∀ b, b ≠ n0 + i → m' b = m b) → (c = .W → (∀ b, b < σ.x → b ≠ n0 + i → m' b = m b) ∧ ∀ b, σ'.x ≤ b → m' b = none) → (c ≠ .W → ∀ x ∈ u, x.1 ≠ n0 + i → ∃ p, m x.1 = some p) →
          VR w' S' m' v v' → (c ≠ .W → Rel w' S' F m' (upds g u)) → (c = .W → Rel w' S' F m' σ'.h) → K (a.put o.dst v') w') → wpOp P ops Q i K a w

def OpS (P : Program) (N : Nat) (ops : Array Oper) (n0 i : Nat) (σ : OS) (c : Cls) (σ' : OS) : Prop := ∃ o v u, OpS1 P N ops n0 i σ c σ' o v u

theorem upds_notin : ∀ (u : Upd) (h : Heap) (b : Nat), (∀ x ∈ u, x.1 ≠ b) → upds h u b = h b
  | [], _, _, _ => rfl
  | (c, o) :: u, h, b, hx => by
    have h1 := hx (c, o) (by simp)
    show upds (upd h c o) u b = h b
    rw [upds_notin u _ b (fun x hm => hx x (by simp [hm])), upd_ne (Ne.symm h1)]

theorem upds_in : ∀ (u : Upd) (h h' : Heap) (b : Nat), (∃ x ∈ u, x.1 = b) → upds h u b = upds h' u b
  | [], _, _, _, hx => by obtain ⟨_, h, _⟩ := hx; cases h
  | (c, o) :: u, h, h', b, hx => by
    show upds (upd h c o) u b = upds (upd h' c o) u b
    by_cases hin : ∃ x ∈ u, x.1 = b
    · exact upds_in u _ _ b hin
    · have hno : ∀ x ∈ u, x.1 ≠ b := fun x hm e => hin ⟨x, hm, e⟩
      rw [upds_notin u _ b hno, upds_notin u _ b hno]
      obtain ⟨y, hy, he⟩ := hx
      rcases List.mem_cons.1 hy with rfl | hy
      · simp only at he; subst he; rw [upd_same, upd_same]
      · exact absurd he (hno y hy)

section
variable {P : Program} {w : World} {S F : Nat → Prop} {m : Pm} {g : Heap} {Θ : Tab}

theorem gd_wanted {ops : Array Oper} {t : Fr} {o : Oper} {a : Act} {r : Bool} (h : gd ops t o = some r) (ht : ∀ x, x ∈ o.looksAt ops → VR w S m (t x) (a.tmps.getD x undef)) :
    Region.wanted o (yielded ops a.tmps) = r := by
  unfold gd at h
  unfold Region.wanted
  split at h
  · rename_i hg; simp only [Option.some.injEq] at h; subst h; rw [hg]
  · rename_i gg want hg
    rw [hg]
    simp only
    unfold yielded
    split at h
    · rename_i d hd
      have hv := ht d (by simp [Oper.looksAt, hg, hd])
      have hgd : (a.tmps[d]?).getD undef = a.tmps.getD d undef := by simp
      simp only [hd, Option.bind_some]
      split at h
      · rename_i b hb
        simp only [Option.some.injEq] at h; subst h
        rw [hb] at hv
        generalize hx : a.tmps.getD d undef = x at hv hgd
        cases hv
        cases hq : a.tmps[d]? with
        | none => rw [hq] at hgd; cases hgd
        | some y => rw [hq] at hgd; simp at hgd; subst hgd; simp
      · rename_i hb
        simp only [Option.some.injEq] at h; subst h
        rw [hb] at hv
        generalize hx : a.tmps.getD d undef = x at hv hgd
        cases hv
        cases hq : a.tmps[d]? with
        | none => simp
        | some y => rw [hq] at hgd; simp at hgd; subst hgd; simp
      · cases h
    · rename_i hd
      simp only [Option.some.injEq] at h; subst h
      simp [hd]

theorem rdCls_cases (n0 : Nat) (a : AV) : rdCls n0 a = .L ∨ rdCls n0 a = .Q := by unfold rdCls; split <;> simp

/-- What is known of a change. -/
def UO (K : Nat → Prop) (c : Cls) (n0 s : Nat) (h : Heap) (u : Upd) : Prop :=
  (c ≠ .W → updOK c n0 s h u) ∧ (c = .P → u = []) ∧ (∀ x ∈ u, x.1 = s ∨ h x.1 ≠ none) ∧ ∀ x ∈ u, x.1 = s ∨ K x.1

theorem P1_upd {v' : Option AV} {c : Cls} {v : AV} {u : Upd} {n0 s : Nat} {h : Heap} {K : Nat → Prop} (ha : P1 v' = some (c, v, u)) : UO K c n0 s h u := by
  obtain ⟨_, _, rfl⟩ := P1_inv ha
  exact ⟨(fun _ x hx => by cases hx), (fun _ => rfl), (fun x hx => by cases hx), (fun x hx => by cases hx)⟩

theorem one_upd {c : Cls} {n0 s : Nat} {o : AO} {h : Heap} {K : Nat → Prop} (hc : c ≠ .P) : UO K c n0 s h [(s, some o)] :=
  ⟨fun _ x hx => (by simp at hx; subst hx; exact .inl ⟨rfl, by simp⟩), fun h => absurd h hc, fun x hx => (by simp at hx; subst hx; exact .inl rfl), fun x hx => (by simp at hx; subst hx; exact .inl rfl)⟩

theorem nil_upd {c : Cls} {n0 s : Nat} {h : Heap} {K : Nat → Prop} : UO K c n0 s h [] := ⟨(fun _ x hx => by cases hx), (fun _ => rfl), (fun x hx => by cases hx), (fun x hx => by cases hx)⟩

theorem evs_mem {t : Fr} : ∀ {os : List Operand} {as : List AV}, evs t os = some as → ∀ x ∈ as, ∃ z ∈ os, ev t z = some x
  | [], as, h, x, hx => by simp [evs] at h; subst h; cases hx
  | o :: os, as, h, x, hx => by
    simp only [evs] at h
    split at h
    · rename_i a1 as' h1 h2
      simp only [Option.some.injEq] at h; subst h
      rcases List.mem_cons.1 hx with rfl | hx
      · exact ⟨o, by simp, h1⟩
      · obtain ⟨z, hz, he⟩ := evs_mem h2 x hx
        exact ⟨z, by simp [hz], he⟩
    · cases h

/-- An operand that leads to a live block. -/
def Leads (op : Op) (t : Fr) (b : Nat) : Prop := ∃ z ∈ op.operands, ∃ x, ev t z = some x ∧ ((∃ off len sz, x = .sl b off len sz) ∨ (∃ i off, x = .ptr b i off) ∨ x = .mp b)

theorem leads_arg {cl : Call} {t : Fr} {b off len sz : Nat} {y : AV} {bt : Builtin} (hc : cl.callee = .builtin bt) (h : evs t cl.args.toList = some [.sl b off len sz, y]) : Leads (.call cl) t b := by
  obtain ⟨z, hz, he⟩ := evs_mem h (.sl b off len sz) (by simp)
  exact ⟨z, by simp only [Op.operands, Call.operands, Array.mem_append]; exact .inr (by simpa using hz), _, he, .inl ⟨_, _, _, rfl⟩⟩

theorem append_upd {ti : TI} {h : Heap} {n0 s : Nat} {x y v : AV} {c : Cls} {u : Upd} {K : Nat → Prop} (ha : aAppend ti h n0 s x y = some (c, v, u)) (hK : ∀ b off len sz, x = .sl b off len sz → K b) : UO K c n0 s h u := by
  unfold aAppend at ha
  split at ha
  · split at ha
    · split at ha
      · split at ha
        · split at ha
          · simp only [Option.some.injEq, Prod.mk.injEq] at ha; obtain ⟨rfl, _, rfl⟩ := ha; exact nil_upd
          · split at ha
            · simp only [Option.some.injEq, Prod.mk.injEq] at ha; obtain ⟨rfl, _, rfl⟩ := ha
              exact one_upd (by rcases rdCls_cases n0 y with h | h <;> rw [h] <;> simp)
            · cases ha
        · rename_i b off len sz
          split at ha
          · rename_i es hb
            split at ha
            · split at ha
              · simp only [Option.some.injEq, Prod.mk.injEq] at ha; obtain ⟨rfl, _, rfl⟩ := ha
                exact ⟨fun h => absurd rfl h, (fun h => by cases h), (fun x hx => by simp at hx; subst hx; exact .inr (by simp [hb])), (fun x hx => by simp at hx; subst hx; exact .inr (hK b off len sz rfl))⟩
              · split at ha
                · simp only [Option.some.injEq, Prod.mk.injEq] at ha; obtain ⟨rfl, _, rfl⟩ := ha
                  refine ⟨fun hW x hx => ?_, fun h => ?_, (fun x hx => ?_), (fun x hx => ?_)⟩
                  · by_cases hn : n0 ≤ b
                    · simp at hx
                      rcases hx with rfl | rfl
                      · exact .inr ⟨by simp [hn], hn, rfl, by simp [hb]⟩
                      · exact .inl ⟨rfl, by simp⟩
                    · simp [hn] at hW
                  · split at h <;> cases h
                  · simp at hx
                    rcases hx with rfl | rfl
                    · exact .inr (by simp [hb])
                    · exact .inl rfl
                  · simp at hx
                    rcases hx with rfl | rfl
                    · exact .inr (hK b off len sz rfl)
                    · exact .inl rfl
                · cases ha
            · cases ha
          · cases ha
        · cases ha
      · cases ha
    · cases ha
  · cases ha

theorem VR.ptr_inv {b i off : Nat} {x : Value} (h : VR w S m (.ptr b i off) x) : ∃ p, m b = some p := by
  generalize hav : AV.ptr b i off = av at h
  cases h <;> simp only [reduceCtorEq, AV.ptr.injEq] at hav
  obtain ⟨rfl, _⟩ := hav
  exact ⟨_, ‹_›⟩

theorem aop_upd {op : Op} {t : Fr} {h : Heap} {n0 s : Nat} {c : Cls} {v : AV} {u : Upd} (ha : aop Θ op t h n0 s = some (c, v, u)) : UO (Leads op t) c n0 s h u := by
  cases op <;> simp only [aop, reduceCtorEq] at ha
  case move => exact P1_upd ha
  case assign => exact P1_upd ha
  case pick => split at ha <;> first | exact P1_upd ha | cases ha
  case nilCheck => split at ha <;> first | exact P1_upd ha | cases ha
  case binOp => split at ha <;> first | exact P1_upd ha | cases ha
  case unOp => split at ha <;> first | exact P1_upd ha | cases ha
  case convert => split at ha <;> first | exact P1_upd ha | cases ha
  case extract => split at ha <;> first | exact P1_upd ha | cases ha
  case makeFunc =>
    split at ha
    · split at ha
      · split at ha <;> first | exact P1_upd ha | cases ha
      · cases ha
    · cases ha
  case alloc =>
    split at ha
    · unfold aAlloc at ha
      split at ha
      · simp only [Option.some.injEq, Prod.mk.injEq] at ha; obtain ⟨rfl, _, rfl⟩ := ha; exact one_upd (by simp)
      · cases ha
    · cases ha
  case box =>
    split at ha
    · unfold aBox at ha
      split at ha
      · split at ha
        · simp only [Option.some.injEq, Prod.mk.injEq] at ha; obtain ⟨rfl, _, rfl⟩ := ha; exact one_upd (by simp)
        · cases ha
      · cases ha
    · cases ha
  case build =>
    split at ha
    · unfold aBuild at ha
      split at ha
      · split at ha
        · simp only [Option.some.injEq, Prod.mk.injEq] at ha; obtain ⟨rfl, _, rfl⟩ := ha; exact nil_upd
        · cases ha
      · split at ha
        · simp only [Option.some.injEq, Prod.mk.injEq] at ha; obtain ⟨rfl, _, rfl⟩ := ha; exact nil_upd
        · cases ha
      · cases ha
    · cases ha
  case buildSlice =>
    split at ha
    · unfold aBuildSlice at ha
      split at ha
      · split at ha
        · split at ha
          · simp only [Option.some.injEq, Prod.mk.injEq] at ha; obtain ⟨rfl, _, rfl⟩ := ha; exact nil_upd
          · cases ha
        · split at ha
          · split at ha
            · simp only [Option.some.injEq, Prod.mk.injEq] at ha; obtain ⟨rfl, _, rfl⟩ := ha; exact one_upd (by simp)
            · cases ha
          · cases ha
      · cases ha
    · cases ha
  case load =>
    split at ha
    · unfold aLoad at ha
      split at ha
      · split at ha
        · simp only [Option.some.injEq, Prod.mk.injEq] at ha; obtain ⟨rfl, _, rfl⟩ := ha; exact nil_upd
        · cases ha
      · cases ha
    · cases ha
  case store =>
    split at ha
    · have hW := aStore_W ha
      subst hW
      rename_i ti a1 a2 hti h1 h2
      unfold aStore at ha
      repeat' split at ha
      all_goals first
        | cases ha; done
        | (simp only [Option.some.injEq, Prod.mk.injEq] at ha
           obtain ⟨_, _, rfl⟩ := ha
           refine ⟨fun h => absurd rfl h, (fun h => by cases h), (fun x hx => ?_), (fun x hx => ?_)⟩
           · simp at hx; subst hx; exact .inr (by simp [*])
           · simp at hx; subst hx
             exact .inr ⟨_, by simp [Op.operands], _, h1, .inr (.inl ⟨_, _, rfl⟩)⟩)
    · cases ha
  case makeMap =>
    split at ha
    · simp only [Option.some.injEq, Prod.mk.injEq] at ha; obtain ⟨rfl, _, rfl⟩ := ha; exact one_upd (by simp)
    · cases ha
  case lookup =>
    split at ha
    · obtain ⟨_, rfl⟩ := aLookup_P ha; exact nil_upd
    · cases ha
  case mapUpdate =>
    split at ha
    · have hW := aMapUpdate_W ha
      subst hW
      rename_i ti a1 a2 a3 hti h1 h2 h3
      unfold aMapUpdate at ha
      repeat' split at ha
      all_goals first
        | cases ha; done
        | (simp only [Option.some.injEq, Prod.mk.injEq] at ha
           obtain ⟨_, _, rfl⟩ := ha
           refine ⟨fun h => absurd rfl h, (fun h => by cases h), (fun x hx => ?_), (fun x hx => ?_)⟩
           · simp at hx; subst hx; exact .inr (by simp [*])
           · simp at hx; subst hx
             exact .inr ⟨_, by simp [Op.operands], _, h1, .inr (.inr rfl)⟩)
    · cases ha
  case makeSlice =>
    split at ha
    · unfold aMake at ha
      split at ha
      · split at ha
        · simp only [Option.some.injEq, Prod.mk.injEq] at ha; obtain ⟨rfl, _, rfl⟩ := ha; exact one_upd (by simp)
        · cases ha
      · cases ha
    · cases ha
  case slice =>
    split at ha
    · split at ha
      · unfold aSlice at ha
        repeat' split at ha
        all_goals first | (simp only [Option.some.injEq, Prod.mk.injEq] at ha; obtain ⟨rfl, _, rfl⟩ := ha; exact nil_upd) | cases ha
      · cases ha
    · cases ha
  case fieldAddr =>
    split at ha
    · unfold aField at ha
      repeat' split at ha
      all_goals first | (simp only [Option.some.injEq, Prod.mk.injEq] at ha; obtain ⟨rfl, _, rfl⟩ := ha; exact nil_upd) | cases ha
    · cases ha
  case field =>
    split at ha
    · unfold aFieldV at ha
      repeat' split at ha
      all_goals first | (simp only [Option.some.injEq, Prod.mk.injEq] at ha; obtain ⟨rfl, _, rfl⟩ := ha; exact nil_upd) | cases ha
    · cases ha
  case indexAddr =>
    split at ha
    · unfold aIndexAddr at ha
      repeat' split at ha
      all_goals first | (simp only [Option.some.injEq, Prod.mk.injEq] at ha; obtain ⟨rfl, _, rfl⟩ := ha; exact nil_upd) | cases ha
    · cases ha
  case index =>
    split at ha
    · unfold aIndex at ha
      repeat' split at ha
      all_goals first | (simp only [Option.some.injEq, Prod.mk.injEq] at ha; obtain ⟨rfl, _, rfl⟩ := ha; exact nil_upd) | cases ha
    · cases ha
  case call c =>
    split at ha
    · split at ha
      · unfold aBuiltin at ha
        split at ha
        · split at ha
          · split at ha
            · unfold aLen at ha
              repeat' split at ha
              all_goals first | (simp only [Option.some.injEq, Prod.mk.injEq] at ha; obtain ⟨rfl, _, rfl⟩ := ha; exact nil_upd) | cases ha
            · cases ha
          · cases ha
        · split at ha
          · split at ha
            · exact append_upd ha fun b off len sz hx => by subst hx; exact leads_arg ‹_› ‹_›
            · cases ha
          · cases ha
        · exact P1_upd ha
        · cases ha
      · cases ha
    · cases ha

theorem mem_looksAt {ops : Array Oper} {o : Oper} {x : Nat} (h : Operand.tmp x ∈ o.op.operands) : x ∈ o.looksAt ops :=
  List.mem_append_left _ (List.mem_filterMap.2 ⟨.tmp x, by simpa using h, rfl⟩)

theorem EV.looks {ops : Array Oper} {o : Oper} {t : Fr} {a : Act} (h : ∀ x, x ∈ o.looksAt ops → VR w S m (t x) (a.tmps.getD x undef)) : ∀ x ∈ o.op.operands, EV w S m t a x := by
  intro x hx
  refine EV.of fun i hi => ?_
  subst hi
  exact h i (mem_looksAt hx)

theorem wpOp_of {ops : Array Oper} {i : Nat} {o : Oper} {a : Act} {Q : Exit → Act → World → Prop} {K : Act → World → Prop} (ho : ops[i]? = some o) (hw : Region.wanted o (yielded ops a.tmps) = true)
    (h : o.upon P a K Q ((execOp a.eval o).run P w)) : wpOp P ops Q i K a w := by
  unfold wpOp
  simp only [ho, hw, if_true]
  exact .inl h

/-- What is given up stood for something. -/
theorem aop_kill {op : Op} {t : Fr} {a : Act} {h : Heap} {n0 s : Nat} {c : Cls} {v : AV} {u : Upd} (ha : aop Θ op t h n0 s = some (c, v, u)) (hev : ∀ x ∈ op.operands, EV w S m t a x) :
    ∀ y ∈ u, y.1 ≠ s → ∃ p, m y.1 = some p := by
  intro y hy hne
  obtain ⟨_, _, _, h4⟩ := aop_upd ha
  obtain ⟨z, hz, x, hx, hor⟩ := (h4 y hy).resolve_left hne
  have hv := hev z hz _ hx
  rcases hor with ⟨off, len, sz, rfl⟩ | ⟨i, off, rfl⟩ | rfl
  · exact hv.sl_inv
  · exact hv.ptr_inv
  · generalize hbb : AV.mp y.1 = bb at hv
    generalize a.eval z = zv at hv
    cases hv <;> simp only [reduceCtorEq, AV.mp.injEq] at hbb
    case mp b' p hp => exact ⟨p, hbb ▸ hp⟩

theorem op_skip {N : Nat} {ops : Array Oper} {n0 i : Nat} {t : Fr} {h : Heap} {x : Nat} {o : Oper} (ho : ops[i]? = some o) (hg : gd ops t o = some false) (hd : inN N o.dst = true) :
    OpS P N ops n0 i ⟨t, h, x⟩ .P ⟨put t o.dst (.tup []), h, x⟩ := by
  refine ⟨o, .tup [], [], ho, hd, rfl, Nat.le_refl _, fun _ => ⟨rfl, rfl, fun _ h => by cases h⟩, fun _ => rfl, fun _ _ _ h => h, fun h _ => h, fun w S F m a g hr _ hl hs hx hfr hlt Q K hK => ?_⟩
  have hw := gd_wanted hg hl
  unfold wpOp
  simp only [ho, hw, Bool.false_eq_true, if_false]
  exact hK undef w S m (Ext.refl _ _) (fun _ h => h) (fun _ h => .inl h) (fun _ _ h => h) (fun _ _ _ => rfl) (fun h => by cases h) (fun _ _ h => by cases h) (.tup [] [] rfl (fun i c v h => by simp at h)) (fun _ => hr) (fun h => by cases h)

theorem op_plain (hT : TabOK P Θ) {N : Nat} {ops : Array Oper} {n0 i : Nat} {t : Fr} {h : Heap} {x : Nat} {o : Oper} {c : Cls} {v : AV} {u : Upd} (ho : ops[i]? = some o) (hg : gd ops t o = some true) (hd : inN N o.dst = true)
    (hop : aop Θ o.op t h n0 (n0 + i) = some (c, v, u)) : OpS P N ops n0 i ⟨t, h, x⟩ c ⟨put t o.dst v, upds h u, x⟩ := by
  obtain ⟨hu1, hu2, hu3, _⟩ := aop_upd hop
  have hres : ∀ b, b ≠ n0 + i → h b = none → upds h u b = none := fun b hb hh => by
    rw [upds_notin u h b fun y hy e => by
      rcases hu3 y hy with h1 | h1
      · exact hb (e ▸ h1)
      · exact h1 (e ▸ hh)]
    exact hh
  refine ⟨o, v, u, ho, hd, rfl, Nat.le_refl _, fun hc => ⟨rfl, rfl, hu1 hc⟩, hu2, fun b hb _ hh => hres b hb hh, fun hf hlt b hb => hres b (by simp only at hb hlt; omega) (hf b hb), fun w S F m a g hr hag hl hs hx hfr hlt Q K hK => ?_⟩
  have hw := gd_wanted hg hl
  refine wpOp_of ho hw ?_
  -- for 'W' the heap is the abstract one
  by_cases hW : c = .W
  · have hr' : Rel w S F m h := by
      have hh : ∀ b o p, m b = some p → h b = some o → g b = some o := fun b o p hm hb => hag b o p (by rw [hW]; simp) (by rw [hW]; simp) hm hb
      exact ⟨fun b o p hb hm => hr.content b o p (hh b o p hm hb) hm, fun b₁ b₂ o₁ o₂ p₁ p₂ g₁ g₂ q₁ q₂ => hr.disj b₁ b₂ o₁ o₂ p₁ p₂ (hh _ _ _ q₁ g₁) (hh _ _ _ q₂ g₂) q₁ q₂,
        fun b o p hb hm => hr.apart b o p (hh b o p hm hb) hm, hr.inS, hr.inF, hr.inm⟩
    obtain ⟨v', w', m', h1, h2, h3, h4, h5, h6⟩ := aop_sound (a := a) hT hop (EV.looks hl) (fun b o p _ _ _ hb => hb) hs hr'
    have done : K (a.put o.dst v') w' := hK v' w' S m' h2 (fun _ h => h) (fun _ h => .inl h) h3 (fun hc => absurd hW hc) (fun _ => ⟨fun b _ hb => h4 b hb, fun b hb => by
      have : b ≠ n0 + i := by simp only at hb hlt; omega
      rw [h4 b this]; exact hx hW b hb⟩) (fun hc => absurd hW hc) h5 (fun hc => absurd hW hc) (fun _ => h6)
    rcases h1 with h1 | ⟨h1, rfl⟩ <;> rw [h1] <;> exact done
  · obtain ⟨v', w', m', h1, h2, h3, h4, h5, h6⟩ := aop_sound (a := a) hT hop (EV.looks hl) hag hs hr
    have done : K (a.put o.dst v') w' := hK v' w' S m' h2 (fun _ h => h) (fun _ h => .inl h) h3 (fun _ b hb => h4 b hb) (fun hc => absurd hc hW) (fun _ y hy hne => aop_kill hop (EV.looks hl) y hy hne) h5 (fun _ => h6) (fun hc => absurd hc hW)
    rcases h1 with h1 | ⟨h1, rfl⟩ <;> rw [h1] <;> exact done

/-- A call of a function value, up to its entry. -/
theorem call_enter {o : Oper} {t : Fr} {a : Act} {cl : Call} {f : Operand} {k : FuncId} {caps as : List AV} (hk : FnIn P k) (hop : o.op = .call cl) (hc : cl.callee = .value f) (hf : ev t f = some (.fn k caps)) (ha : evs t cl.args.toList = some as)
    (hev : ∀ x ∈ o.op.operands, EV w S m t a x) : ∃ vs, LR w S m (as ++ caps) vs ∧ (execOp a.eval o).run P w = .ok (.enter k vs.toArray) w := by
  obtain ⟨fn, hfn, hb, hn⟩ := hk
  have hops : o.op.operands = #[f] ++ cl.args := by rw [hop]; simp [Op.operands, Call.operands, hc]
  have hL := evs_ok (w := w) (S := S) (m := m) (a := a) (fun x hx => hev x (by rw [hops]; simp; exact .inr (by simpa using hx))) ha
  have hF := hev f (by rw [hops]; simp) _ hf
  generalize hfv : a.eval f = fv at hF
  cases hF with
  | fn _ _ vs hl hr =>
  refine ⟨cl.args.toList.map a.eval ++ vs, hL.append ⟨hl, hr⟩, ?_⟩
  have hargs : cl.args.map a.eval ++ (⟨vs⟩ : Array Value) = (cl.args.toList.map a.eval ++ vs).toArray := by apply Array.ext'; simp
  have hb' : fn.body.isNone = false := by cases hbb : fn.body <;> simp_all
  have hn' : (fn.name == "runtime.NumGoroutine") = false := by simpa using hn
  obtain ⟨dst, op, type, pos, after, guard⟩ := o
  simp only at hop
  subst hop
  simp only [execOp, resolve, hc, hfv, Deferred.ofValue, Sem.run_bind, Sem.run_pure, Result.andThen_ok, invoke, callFunc, program, Sem.run, hfn, hn', hb', Bool.false_eq_true, if_false]
  simp [hargs]

theorem op_callH {N : Nat} {ops : Array Oper} {n0 i : Nat} {t : Fr} {h : Heap} {x : Nat} {o : Oper} {cl : Call} {f : Operand} {k : FuncId} {caps as : List AV} {res : AV} {h' : Heap} {x' : Nat}
    (ho : ops[i]? = some o) (hg : gd ops t o = some true) (hd : inN N o.dst = true) (hop : o.op = .call cl) (hc : cl.callee = .value f) (hf : ev t f = some (.fn k caps)) (ha : evs t cl.args.toList = some as)
    (hb : FnS P k (as ++ caps) h x res h' x') : OpS P N ops n0 i ⟨t, h, x⟩ .W ⟨put t o.dst res, h', x'⟩ := by
  obtain ⟨⟨hx', hres, hfree⟩, hk, hb⟩ := hb
  refine ⟨o, res, [], ho, hd, rfl, hx', fun hc => absurd rfl hc, (fun hc => by cases hc), fun b _ hb hh => hres b hb hh, fun hf _ b hb => hfree hf b hb, fun w S F m a g hr hag hl hs hx hfr hlt Q K hK => ?_⟩
  refine wpOp_of ho (gd_wanted hg hl) ?_
  obtain ⟨vs, hL, hrun⟩ := call_enter (P := P) hk hop hc hf ha (EV.looks hl)
  have hh : ∀ b o p, m b = some p → h b = some o → g b = some o := fun b o p hm hb => hag b o p (by simp) (by simp) hm hb
  have hr' : Rel w S F m h :=
    ⟨fun b o p hb hm => hr.content b o p (hh b o p hm hb) hm, fun b₁ b₂ o₁ o₂ p₁ p₂ g₁ g₂ q₁ q₂ => hr.disj b₁ b₂ o₁ o₂ p₁ p₂ (hh _ _ _ q₁ g₁) (hh _ _ _ q₂ g₂) q₁ q₂,
      fun b o p hb hm => hr.apart b o p (hh b o p hm hb) hm, hr.inS, hr.inF, hr.inm⟩
  rw [hrun, Oper.upon_enter]
  refine (hb w S F m vs hfr hr' hL (hx rfl)).mono fun e w' he => ?_
  obtain ⟨v, S', m', rfl, hst, hv, hrel⟩ := he
  exact hK v w' S' m' hst.ext hst.grow hst.new hst.le (fun hc => absurd rfl hc) (fun _ => ⟨fun b hb _ => hst.old b hb, hst.free⟩) (fun hc => absurd rfl hc) hv (fun hc => absurd rfl hc) (fun _ => hrel)

/-- What a call with frozen arguments leaves to the caller. -/
theorem frozen_call {k : FuncId} {args args' : List AV} {vs : List Value} {h : Heap} {res : AV} {h1 : Heap} {x1 d : Nat} (live : Bool) (hr : Rel w S F m g) (hL : LR w S m args vs)
    (hag : live = true → ∀ b o p, m b = some p → h b = some o → g b = some o)
    (hf : rfs true d (if live then h else h0) args = some args') (hb : FnS P k args' h0 0 res h1 x1) :
    Calls P k vs.toArray w fun e w' => ∃ v Sc mc, e = .returned v ∧ Ext (fun k => k < w.heap.size) w w' ∧ VR w' Sc mc res v ∧ Rel w' Sc (fun k => k < w.heap.size) mc h1 ∧
      (∀ k, Sc k → (live = false ∧ S k) ∨ (live = true ∧ k < w.heap.size) ∨ (w.heap.size ≤ k ∧ k < w'.heap.size)) ∧ (∀ b o p, h1 b = some o → mc b = some p → w.heap.size ≤ p.blk ∧ p.blk < w'.heap.size) := by
  obtain ⟨_, _, hb⟩ := hb
  let Sc : Nat → Prop := fun k => if live then k < w.heap.size else S k
  have hcont : ∀ b o p, (if live then h else h0) b = some o → m b = some p → CR w S m p o := by
    intro b o p hb hm
    cases live with
    | false => simp [h0] at hb
    | true => exact hr.content b o p (hag rfl b o p hm (by simpa using hb)) hm
  have hL' := (rf_all true _ hcont d).2.1 _ _ _ hf hL
  have hsub : ∀ k, SF true S (if live then h else h0) m k → Sc k := by
    intro k hk
    cases live with
    | false =>
      rcases hk with ⟨_, hk⟩ | ⟨b, o, p, hb, _⟩
      · simpa [Sc] using hk
      · simp [h0] at hb
    | true =>
      rcases hk with ⟨_, hk⟩ | ⟨b, o, p, hb, hm, rfl⟩
      · simpa [Sc] using hr.inS k hk
      · simpa [Sc] using hr.inm b p hm
  have hScs : ∀ k, Sc k → k < w.heap.size := by
    intro k hk
    cases live with
    | false => exact hr.inS k (by simpa [Sc] using hk)
    | true => simpa [Sc] using hk
  have hr0 : Rel w Sc (fun k => k < w.heap.size) (fun _ => none) h0 :=
    ⟨fun b o p hb => by simp [h0] at hb, fun b₁ b₂ o₁ o₂ p₁ p₂ hb => by simp [h0] at hb, fun b o p hb => by simp [h0] at hb, hScs, fun k hk => hk, fun b p hb => by cases hb⟩
  refine (hb w Sc (fun k => k < w.heap.size) (fun _ => none) vs (fun _ _ => rfl) hr0 (hL'.mono (Ext.refl _ _) hsub (fun _ _ h => h)) (fun _ _ => rfl)).mono fun e w' he => ?_
  obtain ⟨v, S', m', he, hst, hv, hrel⟩ := he
  refine ⟨v, S', m', he, hst.ext.mono (fun k hk => .inr hk), hv, hrel, fun k hk => ?_, fun b o p hb hm => ?_⟩
  · rcases hst.new k hk with h2 | h2
    · cases live with
      | false => exact .inl ⟨rfl, by simpa [Sc] using h2⟩
      | true => exact .inr (.inl ⟨rfl, by simpa [Sc] using h2⟩)
    · exact .inr (.inr ⟨h2, hrel.inS k hk⟩)
  · have := (hrel.apart b o p hb hm).2
    exact ⟨by omega, hrel.inm b p hm⟩

/-- The caller's memory behind such a call; X: a block that it takes over. -/
theorem Rel.behind (hr : Rel w S F m g) {w' : World} (he : Ext (fun k => k < w.heap.size) w w') (X : Nat → Prop) :
    Rel w' (fun k => S k ∨ (w.heap.size ≤ k ∧ k < w'.heap.size ∧ ¬ X k)) F m g :=
  ⟨fun b o p hb hm => (hr.content b o p hb hm).mono (he.mono hr.inS) (fun _ h => .inl h) (fun _ _ h => h) (he.same _ (hr.inm b p hm)), hr.disj,
    fun b o p hb hm => ⟨fun hk => hk.elim (hr.apart b o p hb hm).1 (fun hk => by have := hr.inm b p hm; omega), (hr.apart b o p hb hm).2⟩,
    fun k hk => hk.elim (fun h => Nat.lt_of_lt_of_le (hr.inS k h) he.size) (fun h => h.2.1), fun k hk => Nat.lt_of_lt_of_le (hr.inF k hk) he.size, fun b p hm => Nat.lt_of_lt_of_le (hr.inm b p hm) he.size⟩

theorem op_callP {N : Nat} {ops : Array Oper} {n0 i : Nat} {t : Fr} {h : Heap} {x : Nat} {o : Oper} {cl : Call} {f : Operand} {k : FuncId} {caps as as' : List AV} {res res' : AV} {h1 : Heap} {x1 d d' : Nat} (live : Bool)
    (ho : ops[i]? = some o) (hg : gd ops t o = some true) (hd : inN N o.dst = true) (hop : o.op = .call cl) (hc : cl.callee = .value f) (hf : ev t f = some (.fn k caps)) (ha : evs t cl.args.toList = some as)
    (hrf : rfs true d (if live then h else h0) (as ++ caps) = some as') (hb : FnS P k as' h0 0 res h1 x1) (hrf' : rf (!live) d' h1 res = some res') :
    OpS P N ops n0 i ⟨t, h, x⟩ (if live then .Q else .L) ⟨put t o.dst res', h, x⟩ := by
  have hk := hb.2.1
  have hnw : (if live then Cls.Q else Cls.L) ≠ .W := by cases live <;> simp
  refine ⟨o, res', [], ho, hd, rfl, Nat.le_refl _, fun _ => ⟨rfl, rfl, fun _ h => by cases h⟩, fun _ => rfl, fun _ _ _ h => h, fun h _ => h, fun w S F m a g hr hag hl hs hx hfr hlt Q K hK => ?_⟩
  refine wpOp_of ho (gd_wanted hg hl) ?_
  obtain ⟨vs, hL, hrun⟩ := call_enter (P := P) hk hop hc hf ha (EV.looks hl)
  rw [hrun, Oper.upon_enter]
  refine (frozen_call live hr hL (fun hlv b o p hm hb => hag b o p (by rw [hlv]; simp) (by rw [hlv]; simp) hm hb) hrf hb).mono fun e w' he => ?_
  obtain ⟨v, Sc, mc, rfl, hext, hv, hrel, hSc, hlive⟩ := he
  have hres := (rf_all (!live) h1 hrel.content d').1 _ _ _ hrf' hv
  refine hK v w' _ m (hext.mono fun k hk => hk.elim (hr.inS k) (hr.inF k)) (fun k hk => .inl hk) (fun k hk => hk.imp id (fun h => h.1)) (fun _ _ h => h) (fun _ _ _ => rfl) (fun hc => absurd hc hnw) (fun _ _ h => by cases h)
    (VR.up (hres.mono (Ext.refl _ _) (fun k hk => ?_) (fun _ _ h => h))) (fun _ => hr.behind hext (fun _ => False)) (fun hc => absurd hc hnw)
  rcases hk with ⟨hfr, hk⟩ | ⟨b, o, p, hb, hm, rfl⟩
  · rcases hSc k hk with ⟨_, h2⟩ | ⟨h2, _⟩ | h2
    · exact .inl h2
    · rw [h2] at hfr; simp at hfr
    · exact .inr ⟨h2.1, h2.2, fun h => h⟩
  · exact .inr ⟨(hlive b o p hb hm).1, (hlive b o p hb hm).2, fun h => h⟩

theorem op_callT {N : Nat} {ops : Array Oper} {n0 i : Nat} {t : Fr} {h : Heap} {x : Nat} {o : Oper} {cl : Call} {f : Operand} {k : FuncId} {caps as as' : List AV} {b len sz : Nat} {es es' : List (List AV)} {h1 : Heap} {x1 d d' : Nat} (live : Bool)
    (ho : ops[i]? = some o) (hg : gd ops t o = some true) (hd : inN N o.dst = true) (hop : o.op = .call cl) (hc : cl.callee = .value f) (hf : ev t f = some (.fn k caps)) (ha : evs t cl.args.toList = some as)
    (hrf : rfs true d (if live then h else h0) (as ++ caps) = some as') (hb : FnS P k as' h0 0 (.sl b 0 len sz) h1 x1) (hh : h1 b = some (.cells es)) (hlen : len = es.length) (hrf' : rfe (!live) d' (upd h1 b none) es = some es') :
    OpS P N ops n0 i ⟨t, h, x⟩ (if live then .Q else .L) ⟨put t o.dst (.sl (n0 + i) 0 len sz), upd h (n0 + i) (some (.cells es')), x⟩ := by
  have hk := hb.2.1
  have hnw : (if live then Cls.Q else Cls.L) ≠ .W := by cases live <;> simp
  refine ⟨o, .sl (n0 + i) 0 len sz, [(n0 + i, some (.cells es'))], ho, hd, rfl, Nat.le_refl _, fun _ => ⟨rfl, rfl, fun _ h => by simp at h; subst h; exact .inl ⟨rfl, by simp⟩⟩, (fun hc => by cases live <;> simp at hc),
    fun b hb _ hh => (by show upd _ _ _ b = none; rw [upd_ne hb]; exact hh), fun hf hlt b hb => (by show upd _ _ _ b = none; rw [upd_ne (by simp only at hb hlt; omega)]; exact hf b hb), fun w S F m a g hr hag hl hs hx hfr hlt Q K hK => ?_⟩
  refine wpOp_of ho (gd_wanted hg hl) ?_
  obtain ⟨vs, hL, hrun⟩ := call_enter (P := P) hk hop hc hf ha (EV.looks hl)
  rw [hrun, Oper.upon_enter]
  refine (frozen_call live hr hL (fun hlv b o p hm hb => hag b o p (by rw [hlv]; simp) (by rw [hlv]; simp) hm hb) hrf hb).mono fun e w' he => ?_
  obtain ⟨v, Sc, mc, rfl, hext, hv, hrel, hSc, hlive⟩ := he
  -- the block that is taken over
  generalize hav : AV.sl b 0 len sz = av at hv
  cases hv <;> simp only [reduceCtorEq, AV.sl.injEq] at hav
  case sl b' off' len' cap p q1 q2 q3 q4 hm =>
  obtain ⟨rfl, rfl, rfl, hps⟩ := hav
  have hCR := hrel.content b _ p hh hm
  have hpl := hlive b _ p hh hm
  obtain ⟨arr, ty, c1, c2, c3, c4, c5⟩ := hCR.er
  have hcont' : ∀ b₁ o p, upd h1 b none b₁ = some o → mc b₁ = some p → CR w' Sc mc p o := by
    intro b₁ o p' hb₁ hm₁
    by_cases e : b₁ = b
    · subst e; rw [upd_same] at hb₁; cases hb₁
    · rw [upd_ne e] at hb₁; exact hrel.content b₁ o p' hb₁ hm₁
  obtain ⟨k1, k2⟩ := (rf_all (!live) (upd h1 b none) hcont' d').2.2 _ _ hrf'
  have hsub : ∀ k, SF (!live) Sc (upd h1 b none) mc k → S k ∨ (w.heap.size ≤ k ∧ k < w'.heap.size ∧ ¬ (k = p.blk)) := by
    intro k hk
    rcases hk with ⟨hfr, hk⟩ | ⟨b₁, o, p₁, hb₁, hm₁, rfl⟩
    · have hne : k ≠ p.blk := fun e => (hrel.apart b _ p hh hm).1 (e ▸ hk)
      rcases hSc k hk with ⟨_, h2⟩ | ⟨h2, _⟩ | h2
      · exact .inl h2
      · rw [h2] at hfr; simp at hfr
      · exact .inr ⟨h2.1, h2.2, hne⟩
    · by_cases e : b₁ = b
      · subst e; rw [upd_same] at hb₁; cases hb₁
      · rw [upd_ne e] at hb₁
        exact .inr ⟨(hlive b₁ o p₁ hb₁ hm₁).1, (hlive b₁ o p₁ hb₁ hm₁).2, hrel.disj _ _ _ _ _ _ hb₁ hh hm₁ hm e⟩
  have hr1 := hr.behind hext (fun k => k = p.blk)
  have hE : ER w' (fun k => S k ∨ (w.heap.size ≤ k ∧ k < w'.heap.size ∧ ¬ (k = p.blk))) (setm m (n0 + i) p) p.sz es' ((arr.toList.drop p.off).take (p.ext * p.sz)) := by
    refine ⟨by rw [c5.len, k1], fun j e' he' => ?_⟩
    have hj : j < es.length := by rw [← k1]; exact (List.getElem?_eq_some_iff.1 he').1
    obtain ⟨e2, he2, l1, l2, l3⟩ := k2 j _ (List.getElem?_eq_getElem hj)
    rw [he'] at he2; cases he2
    obtain ⟨m1, m2, m3⟩ := c5.each j _ (List.getElem?_eq_getElem hj)
    refine ⟨by rw [l1, m1], l2 m2, ?_⟩
    exact (l3 _ m3).mono (Ext.refl _ _) hsub (fun _ _ h => by cases h)
  have hCR' : CR w' (fun k => S k ∨ (w.heap.size ≤ k ∧ k < w'.heap.size ∧ ¬ (k = p.blk))) (setm m (n0 + i) p) p (.cells es') := CR.mk c1 (by rw [k1]; exact c2) c3 c4 hE
  have hle := setm_le (p := p) hs
  have hrel' : Rel w' (fun k => S k ∨ (w.heap.size ≤ k ∧ k < w'.heap.size ∧ ¬ (k = p.blk))) F (setm m (n0 + i) p) (upd g (n0 + i) (some (.cells es'))) := by
    have old : ∀ c o q, c ≠ n0 + i → upd g (n0 + i) (some (.cells es')) c = some o → setm m (n0 + i) p c = some q → g c = some o ∧ m c = some q := by
      intro c o q hc hgc hq
      rw [upd_ne hc] at hgc; rw [setm_ne hc] at hq; exact ⟨hgc, hq⟩
    refine ⟨fun c o q hgc hq => ?_, fun c₁ c₂ o₁ o₂ q₁ q₂ g₁ g₂ r₁ r₂ hne => ?_, fun c o q hgc hq => ?_, hr1.inS, hr1.inF, fun c q hq => ?_⟩
    · by_cases e : c = n0 + i
      · subst e; rw [upd_same] at hgc; cases hgc; rw [setm_same] at hq; cases hq; exact hCR'
      · obtain ⟨j1, j2⟩ := old c o q e hgc hq
        exact (hr1.content c o q j1 j2).mono (Ext.refl _ _) (fun _ h => h) hle rfl
    · by_cases e1 : c₁ = n0 + i
      · by_cases e2 : c₂ = n0 + i
        · exact absurd (e1.trans e2.symm) hne
        · subst e1; rw [setm_same] at r₁; cases r₁
          have := hr.inm c₂ q₂ (old _ _ _ e2 g₂ r₂).2
          intro e; omega
      · by_cases e2 : c₂ = n0 + i
        · subst e2; rw [setm_same] at r₂; cases r₂
          have := hr.inm c₁ q₁ (old _ _ _ e1 g₁ r₁).2
          intro e; omega
        · obtain ⟨j1, j2⟩ := old _ _ _ e1 g₁ r₁
          obtain ⟨l1, l2⟩ := old _ _ _ e2 g₂ r₂
          exact hr.disj _ _ _ _ _ _ j1 l1 j2 l2 hne
    · by_cases e : c = n0 + i
      · subst e; rw [setm_same] at hq; cases hq
        refine ⟨fun hk => hk.elim (fun hk => ?_) (fun hk => hk.2.2 rfl), fun hk => ?_⟩
        · have := hr.inS _ hk; omega
        · have := hr.inF _ hk; omega
      · obtain ⟨j1, j2⟩ := old c o q e hgc hq
        exact hr1.apart c o q j1 j2
    · by_cases e : c = n0 + i
      · subst e; rw [setm_same] at hq; cases hq; exact hpl.2
      · rw [setm_ne e] at hq; exact hr1.inm c q hq
  refine hK _ w' _ (setm m (n0 + i) p) (hext.mono fun k hk => hk.elim (hr.inS k) (hr.inF k)) (fun k hk => .inl hk) (fun k hk => hk.imp id (fun h => h.1)) hle (fun _ c hc => setm_ne hc) (fun hc => absurd hc hnw) (fun _ y hy hne => by simp at hy; subst hy; exact absurd rfl hne) ?_
    (fun _ => hrel') (fun hc => absurd hc hnw)
  · rw [hps]
    exact .sl (n0 + i) 0 len cap p setm_same q1 q2 q3 q4

end
end Go.Av

/-
  A region's operations, in the text's order and in any other. Conditions: none.
-/
namespace Go.Av

def OpsS (P : Program) (N : Nat) (ops : Array Oper) (n0 : Nat) : List Nat → OS → List Cls → OS → Prop
  | [], σ, [], σ' => σ = σ'
  | i :: l, σ, c :: cs, σ' => ∃ σ1, OpS P N ops n0 i σ c σ1 ∧ OpsS P N ops n0 l σ1 cs σ'
  | _, _, _, _ => False

section
variable {P : Program} {w : World} {S F : Nat → Prop} {m : Pm} {N : Nat} {ops : Array Oper} {n0 : Nat}

/-- In the text's order. -/
theorem seq_ops : ∀ (l : List Nat) (σ : OS) (cs : List Cls) (σ' : OS), OpsS P N ops n0 l σ cs σ' → l.Nodup → (∀ i ∈ l, n0 + i < σ.x) →
    (σ.x ≤ σ'.x ∧ (∀ b, (∀ i ∈ l, b ≠ n0 + i) → b < σ.x → σ.h b = none → σ'.h b = none) ∧ ((∀ b, σ.x ≤ b → σ.h b = none) → ∀ b, σ'.x ≤ b → σ'.h b = none)) ∧
    ∀ (w : World) (S F : Nat → Prop) (m : Pm) (a : Act) (Q : Exit → Act → World → Prop), (∀ b, σ.x ≤ b → σ.h b = none) → Rel w S F m σ.h → TR w S m N σ.t a → (∀ i ∈ l, m (n0 + i) = none) → (∀ b, σ.x ≤ b → m b = none) →
      (∀ a' w' S' m', Ext (fun k => S k ∨ F k) w w' → (∀ k, S k → S' k) → (∀ k, S' k → S k ∨ w.heap.size ≤ k) → (∀ b p, m b = some p → m' b = some p) → (∀ b, (∀ i ∈ l, b ≠ n0 + i) → b < σ.x → m' b = m b) →
        (∀ b, σ'.x ≤ b → m' b = none) → TR w' S' m' N σ'.t a' → Rel w' S' F m' σ'.h → a'.defers = a.defers → Q .normal a' w') → wpOps P ops Q l a w
  | [], σ, [], σ', h, _, _ => by
    cases h
    exact ⟨⟨Nat.le_refl _, fun _ _ _ h => h, fun h => h⟩, fun w S F m a Q _ hr ht _ hx hQ => hQ a w S m (Ext.refl _ _) (fun _ h => h) (fun _ h => .inl h) (fun _ _ h => h) (fun _ _ _ => rfl) hx ht hr rfl⟩
  | [], _, _ :: _, _, h, _, _ => h.elim
  | _ :: _, _, [], _, h, _, _ => h.elim
  | i :: l, σ, c :: cs, σ', h, hnd, hlt => by
    obtain ⟨σ1, ⟨o, v, u, h1⟩, h2⟩ := h
    have hi : n0 + i < σ.x := hlt i (by simp)
    have hnd' := List.nodup_cons.1 hnd
    obtain ⟨⟨ih1, ih2, ih3⟩, ih⟩ := seq_ops l σ1 cs σ' h2 hnd'.2 (fun j hj => Nat.lt_of_lt_of_le (hlt j (by simp [hj])) h1.x)
    refine ⟨⟨Nat.le_trans h1.x ih1, fun b hb hbx hn => ?_, fun hf => ih3 (h1.free hf hi)⟩, fun w S F m a Q hfr hr ht hs hx hQ => ?_⟩
    · exact ih2 b (fun j hj => hb j (by simp [hj])) (Nat.lt_of_lt_of_le hbx h1.x) (h1.res b (hb i (by simp)) hbx hn)
    rw [wpOps_cons]
    refine h1.sim w S F m a σ.h hr (fun b o p _ _ _ h => h) (fun x _ => ht.2 x) (hs i (by simp)) (fun _ => hx) hfr hi Q _ fun v' w' S' m' e1 e2 e3 e4 e5 e6 _ e7 e8 e9 => ?_
    have hrel : Rel w' S' F m' σ1.h := by
      by_cases hW : c = .W
      · exact e9 hW
      · rw [(h1.quiet hW).2.1]; exact e8 hW
    have old : ∀ b, b < σ.x → b ≠ n0 + i → m' b = m b := fun b hb hne => by
      by_cases hW : c = .W
      · exact (e6 hW).1 b hb hne
      · exact e5 hW b hne
    have fre : ∀ b, σ1.x ≤ b → m' b = none := fun b hb => by
      by_cases hW : c = .W
      · exact (e6 hW).2 b hb
      · rw [(h1.quiet hW).1] at hb
        rw [e5 hW b (by omega)]; exact hx b hb
    have htr : TR w' S' m' N σ1.t (a.put o.dst v') := by
      rw [h1.t]
      exact (ht.mono (e1.mono fun k hk => .inl hk) e2 e4).put h1.dst e7
    refine ih w' S' F m' (a.put o.dst v') Q (h1.free hfr hi) hrel htr (fun j hj => ?_) fre fun a'' w'' S'' m'' f1 f2 f3 f4 f5 f6 f7 f8 f9 => ?_
    · have hne : j ≠ i := fun e => hnd'.1 (e ▸ hj)
      rw [old (n0 + j) (hlt j (by simp [hj])) (by omega)]
      exact hs j (by simp [hj])
    · refine hQ a'' w'' S'' m'' (e1.trans f1 fun k hk => hk.imp (e2 k) id) (fun k hk => f2 k (e2 k hk)) (fun k hk => ?_) (fun b p hb => f4 b p (e4 b p hb)) (fun b hb hbx => ?_) f6 f7 f8 (f9.trans (by cases o.dst <;> rfl))
      · rcases f3 k hk with h | h
        · exact e3 k h
        · exact .inr (Nat.le_trans e1.size h)
      · rw [f5 b (fun j hj => hb j (by simp [hj])) (Nat.lt_of_lt_of_le hbx h1.x), old b hbx (hb i (by simp))]

end
end Go.Av

/-
  A region that draws its order: any order comes to what the text's order comes to. Conditions: none.
-/
namespace Go.Av

inductive Anc (ops : Array Oper) : Nat → Nat → Prop where
  | base {i j : Nat} {o : Oper} (ho : ops[j]? = some o) (h : i ∈ preds o) : Anc ops i j
  | step {i p j : Nat} {o : Oper} (ho : ops[j]? = some o) (h : p ∈ preds o) (k : Anc ops i p) : Anc ops i j

theorem ancOf_bit (acc : List Nat) (i : Nat) : ∀ (ps : List Nat) (s : Nat), (ps.foldl (fun s p => s ||| 2 ^ p ||| acc.getD p 0) s).testBit i = true → s.testBit i = true ∨ ∃ p ∈ ps, i = p ∨ (acc.getD p 0).testBit i = true
  | [], s, h => .inl h
  | p :: ps, s, h => by
    rcases ancOf_bit acc i ps _ h with h1 | ⟨q, hq, h1⟩
    · simp only [Nat.testBit_or, Bool.or_eq_true, Nat.testBit_two_pow, decide_eq_true_eq] at h1
      rcases h1 with (h1 | h1) | h1
      · exact .inl h1
      · exact .inr ⟨p, by simp, .inl h1.symm⟩
      · exact .inr ⟨p, by simp, .inr h1⟩
    · exact .inr ⟨q, by simp [hq], h1⟩

theorem ancL_bit (ops : Array Oper) : ∀ (l pre : List Oper) (acc : List Nat), ops.toList = pre ++ l → acc.length = pre.length → (∀ j i, (acc.getD j 0).testBit i = true → Anc ops i j) →
    ∀ j i, ((ancL l acc).getD j 0).testBit i = true → Anc ops i j
  | [], pre, acc, _, _, h => h
  | o :: l, pre, acc, ho, hl, h => by
    refine ancL_bit ops l (pre ++ [o]) (acc ++ [ancOf acc o]) (by simp [ho]) (by simp [hl]) fun j i hb => ?_
    by_cases hj : j < acc.length
    · rw [List.getD_eq_getElem?_getD, List.getElem?_append_left hj, ← List.getD_eq_getElem?_getD] at hb
      exact h j i hb
    · by_cases hj2 : j = acc.length
      · subst hj2
        have e : (acc ++ [ancOf acc o]).getD acc.length 0 = ancOf acc o := by simp
        rw [e] at hb
        have hop : ops[acc.length]? = some o := by
          rw [← Array.getElem?_toList, ho, hl, List.getElem?_append_right (Nat.le_refl _)]; simp
        rcases ancOf_bit acc i (preds o) 0 hb with h1 | ⟨p, hp, h1⟩
        · simp at h1
        · rcases h1 with rfl | h1
          · exact .base hop hp
          · exact .step hop hp (h p i h1)
      · have hz : (acc ++ [ancOf acc o]).getD j 0 = 0 := by
          rw [List.getD_eq_getElem?_getD, List.getElem?_eq_none (by simp; omega)]; rfl
        rw [hz] at hb; simp at hb

theorem drawOK_spec {ops : Array Oper} {cs : List Cls} (h : drawOK ops cs = true) : (∀ (j : Nat) (oj : Oper), ops[j]? = some oj → ∀ p ∈ preds oj, p < j) ∧
    ∀ (i j : Nat) (oi oj : Oper), ops[i]? = some oi → ops[j]? = some oj → i < j → Anc ops i j ∨ (oi.apart ops oj = true ∧ conflict (cs.getD i .W) (cs.getD j .W) = false) := by
  unfold drawOK at h
  simp only [Bool.and_eq_true, List.all_eq_true, List.mem_range, Bool.or_eq_true, Bool.not_eq_true', decide_eq_true_eq] at h
  obtain ⟨_, h⟩ := h
  have lt : ∀ (j : Nat) (oj : Oper), ops[j]? = some oj → j < ops.toList.length ∧ ops.toList[j]? = some oj := fun j oj hj => by
    have := (Array.getElem?_eq_some_iff.1 hj).1
    exact ⟨by simpa using this, by rw [Array.getElem?_toList]; exact hj⟩
  refine ⟨fun j oj hj p hp => ?_, fun i j oi oj hi hj hij => ?_⟩
  · obtain ⟨h1, h2⟩ := lt j oj hj
    have := h j h1
    rw [h2] at this
    simp only [Bool.and_eq_true, List.all_eq_true, decide_eq_true_eq] at this
    exact this.1 p hp
  · obtain ⟨h1, h2⟩ := lt j oj hj
    obtain ⟨h3, h4⟩ := lt i oi hi
    have := h j h1
    rw [h2] at this
    simp only [Bool.and_eq_true, List.all_eq_true, List.mem_range] at this
    have := this.2 i hij
    rw [h4] at this
    simp only [Bool.or_eq_true, Bool.and_eq_true, Bool.not_eq_true'] at this
    rcases this with h5 | h5
    · exact .inl (ancL_bit ops ops.toList [] [] (by simp) rfl (fun j i h => by simp at h) j i h5)
    · exact .inr h5

/-- The run in the text's order, written down. -/
structure Rec (P : Program) (N : Nat) (ops : Array Oper) (n0 n : Nat) (σs : Nat → OS) (c : Nat → Cls) (o : Nat → Oper) (v : Nat → AV) (u : Nat → Upd) : Prop where
  op : ∀ i, i < n → OpS1 P N ops n0 i (σs i) (c i) (σs (i + 1)) (o i) (v i) (u i)
  x0 : (σs 0).x = n0 + n
  fresh0 : ∀ b, n0 ≤ b → (σs 0).h b = none
  size : ops.size = n
  preds : ∀ i, i < n → ∀ p ∈ Av.preds (o i), p < i
  indep : ∀ i j, i < j → j < n → Anc ops i j ∨ ((o i).apart ops (o j) = true ∧ conflict (c i) (c j) = false)

noncomputable def gD (σs : Nat → OS) (D : Nat → Bool) : Nat → Heap
  | 0 => (σs 0).h
  | k + 1 => open Classical in fun b => if D k = true ∧ (σs (k + 1)).h b ≠ (σs k).h b then (σs (k + 1)).h b else gD σs D k b

def tD (σs : Nat → OS) (o : Nat → Oper) (D : Nat → Bool) : Nat → Fr
  | 0 => (σs 0).t
  | k + 1 => fun x => if D k = true ∧ (o k).dst = some x then (σs (k + 1)).t x else tD σs o D k x

def xD (σs : Nat → OS) (c : Nat → Cls) (D : Nat → Bool) : Nat → Nat
  | 0 => (σs 0).x
  | k + 1 => if D k = true ∧ c k = .W then (σs (k + 1)).x else xD σs c D k

section
variable {P : Program} {N : Nat} {ops : Array Oper} {n0 n : Nat} {σs : Nat → OS} {c : Nat → Cls} {o : Nat → Oper} {v : Nat → AV} {u : Nat → Upd} {D D' : Nat → Bool}

theorem gD_eq1 (b : Nat) : ∀ k, (∀ j, j < k → (σs (j + 1)).h b ≠ (σs j).h b → D j = true) → gD σs D k b = (σs k).h b
  | 0, _ => rfl
  | k + 1, h => by
    simp only [gD]
    split
    · rfl
    · rename_i hn
      by_cases hm : (σs (k + 1)).h b = (σs k).h b
      · rw [hm]; exact gD_eq1 b k fun j hj => h j (by omega)
      · exact absurd ⟨h k (by omega) hm, hm⟩ hn

theorem gD_eq2 (b i : Nat) : ∀ k, i ≤ k → (∀ j, i ≤ j → j < k → D j = true → (σs (j + 1)).h b = (σs j).h b) → gD σs D k b = gD σs D i b
  | 0, hi, _ => by have : i = 0 := by omega
                   subst this; rfl
  | k + 1, hi, h => by
    by_cases he : i = k + 1
    · subst he; rfl
    · simp only [gD]
      rw [if_neg fun hh => hh.2 (h k (by omega) (by omega) hh.1)]
      exact gD_eq2 b i k (by omega) fun j h1 h2 => h j h1 (by omega)

theorem tD_eq1 (H : Rec P N ops n0 n σs c o v u) (x : Nat) : ∀ k, k ≤ n → (∀ j, j < k → (o j).dst = some x → D j = true) → tD σs o D k x = (σs k).t x
  | 0, _, _ => rfl
  | k + 1, hk, h => by
    simp only [tD]
    split
    · rfl
    · rename_i hn
      have hd : (o k).dst ≠ some x := fun e => hn ⟨h k (by omega) e, e⟩
      rw [tD_eq1 H x k (by omega) fun j hj => h j (by omega), (H.op k (by omega)).t]
      cases hdd : (o k).dst with
      | none => rfl
      | some d => simp only [put]; rw [if_neg fun e => hd (by rw [hdd, e])]

theorem tD_eq2 (x i : Nat) : ∀ k, i ≤ k → (∀ j, i ≤ j → j < k → D j = true → (o j).dst ≠ some x) → tD σs o D k x = tD σs o D i x
  | 0, hi, _ => by have : i = 0 := by omega
                   subst this; rfl
  | k + 1, hi, h => by
    by_cases he : i = k + 1
    · subst he; rfl
    · simp only [tD]
      rw [if_neg fun hh => h k (by omega) (by omega) hh.1 hh.2]
      exact tD_eq2 x i k (by omega) fun j h1 h2 => h j h1 (by omega)

theorem xD_eq1 (H : Rec P N ops n0 n σs c o v u) : ∀ k, k ≤ n → (∀ j, j < k → c j = .W → D j = true) → xD σs c D k = (σs k).x
  | 0, _, _ => rfl
  | k + 1, hk, h => by
    simp only [xD]
    split
    · rfl
    · rename_i hn
      have hd : c k ≠ .W := fun e => hn ⟨h k (by omega) e, e⟩
      rw [xD_eq1 H k (by omega) fun j hj => h j (by omega), ((H.op k (by omega)).quiet hd).1]

theorem xD_eq2 (i : Nat) : ∀ k, i ≤ k → (∀ j, i ≤ j → j < k → D j = true → c j ≠ .W) → xD σs c D k = xD σs c D i
  | 0, hi, _ => by have : i = 0 := by omega
                   subst this; rfl
  | k + 1, hi, h => by
    by_cases he : i = k + 1
    · subst he; rfl
    · simp only [xD]
      rw [if_neg fun hh => h k (by omega) (by omega) hh.1 hh.2]
      exact xD_eq2 i k (by omega) fun j h1 h2 => h j h1 (by omega)

theorem Rec.xmono (H : Rec P N ops n0 n σs c o v u) : ∀ i, i ≤ n → n0 + n ≤ (σs i).x
  | 0, _ => by rw [H.x0]; exact Nat.le_refl _
  | i + 1, hi => Nat.le_trans (H.xmono i (by omega)) (H.op i (by omega)).x

theorem xD_ge (H : Rec P N ops n0 n σs c o v u) : ∀ k, k ≤ n → n0 + n ≤ xD σs c D k
  | 0, _ => by simp only [xD]; rw [H.x0]; exact Nat.le_refl _
  | k + 1, hk => by
    simp only [xD]
    split
    · exact H.xmono _ hk
    · exact xD_ge H k (by omega)

theorem Rec.fresh (H : Rec P N ops n0 n σs c o v u) : ∀ i, i ≤ n → ∀ b, (σs i).x ≤ b → (σs i).h b = none
  | 0, _ => fun b hb => H.fresh0 b (by rw [H.x0] at hb; omega)
  | i + 1, hi => (H.op i (by omega)).free (H.fresh i (by omega)) (by have := H.xmono i (by omega); omega)

/-- A slot is empty till its operation has come. -/
theorem Rec.unborn (H : Rec P N ops n0 n σs c o v u) {j : Nat} (hj : j < n) : ∀ i, i ≤ j → (σs i).h (n0 + j) = none
  | 0, _ => H.fresh0 _ (by omega)
  | i + 1, hi => (H.op i (by omega)).res _ (by omega) (by have := H.xmono i (by omega); omega) (H.unborn hj i (by omega))

/-- What an operation that is no 'W' changes. -/
theorem Rec.mod (H : Rec P N ops n0 n σs c o v u) {j b : Nat} (hj : j < n) (hm : (σs (j + 1)).h b ≠ (σs j).h b) (hW : c j ≠ .W) :
    c j ≠ .P ∧ (b = n0 + j ∨ (c j = .F ∧ n0 ≤ b ∧ (σs j).h b ≠ none ∧ ∃ y ∈ u j, y.1 = b ∧ y.1 ≠ n0 + j)) := by
  obtain ⟨_, h2, h3⟩ := (H.op j hj).quiet hW
  have hin : ∃ y ∈ u j, y.1 = b := by
    by_cases hh : ∃ y ∈ u j, y.1 = b
    · exact hh
    · exact absurd (by rw [h2, upds_notin _ _ _ fun y hy e => hh ⟨y, hy, e⟩]) hm
  obtain ⟨y, hy, rfl⟩ := hin
  refine ⟨(fun hP => by rw [(H.op j hj).pure hP] at hy; cases hy), ?_⟩
  rcases h3 y hy with h4 | h4
  · exact .inl h4.1
  · by_cases he : y.1 = n0 + j
    · exact .inl he
    · exact .inr ⟨h4.1, h4.2.1, h4.2.2.2, y, hy, rfl, he⟩

theorem Anc.closed (H : Rec P N ops n0 n σs c o v u) (hcl : ∀ j, j < n → D j = true → ∀ p ∈ Av.preds (o j), D p = true) {i j : Nat} (h : Anc ops i j) : j < n → D j = true → D i = true := by
  induction h with
  | base ho h =>
    intro hj hd
    have := (H.op _ hj).op
    rw [ho] at this; cases this
    exact hcl _ hj hd _ h
  | step ho h k ih =>
    intro hj hd
    have := (H.op _ hj).op
    rw [ho] at this; cases this
    have hp := H.preds _ hj _ h
    exact ih (by omega) (hcl _ hj hd _ h)

/-- i may come next: what is not ordered with it. -/
structure Next (H : Rec P N ops n0 n σs c o v u) (D : Nat → Bool) (i : Nat) : Prop where
  lt : i < n
  no : D i = false
  before : ∀ j, j < i → D j = false → (o j).apart ops (o i) = true ∧ conflict (c j) (c i) = false
  behind : ∀ j, i < j → j < n → D j = true → (o i).apart ops (o j) = true ∧ conflict (c i) (c j) = false

theorem Next.of (H : Rec P N ops n0 n σs c o v u) (hcl : ∀ j, j < n → D j = true → ∀ p ∈ Av.preds (o j), D p = true) {i : Nat} (hi : i < n) (hno : D i = false) (hp : ∀ p ∈ Av.preds (o i), D p = true) : Next H D i := by
  refine ⟨hi, hno, fun j hj hd => ?_, fun j hj hjn hd => ?_⟩
  · refine (H.indep j i hj hi).resolve_left fun ha => ?_
    have : D j = true := by
      have key : ∀ {a b}, Anc ops a b → b = i → D a = true := by
        intro a b hab
        cases hab with
        | base ho h => intro e; subst e; have := (H.op _ hi).op; rw [ho] at this; cases this; exact hp _ h
        | step ho h k => intro e; subst e; have := (H.op _ hi).op; rw [ho] at this; cases this
                         exact k.closed H hcl (by have := H.preds _ hi _ h; omega) (hp _ h)
      exact key ha rfl
    rw [hd] at this; cases this
  · refine (H.indep i j hj hjn).resolve_left fun ha => ?_
    have := ha.closed H hcl hjn hd
    rw [hno] at this; cases this

/-- What an operation that may come next sees of the memory is there. -/
theorem Next.sees {H : Rec P N ops n0 n σs c o v u} {i : Nat} (X : Next H D i) (hP : c i ≠ .P) {b : Nat} (hs : ∀ j, j < n → D j = false → b ≠ n0 + j) (hL : c i = .L → b < n0)
    (hsome : (σs i).h b ≠ none ∨ c i = .W) : gD σs D n b = (σs i).h b := by
  have e2 : gD σs D n b = gD σs D i b := by
    refine gD_eq2 b i n (by have := X.lt; omega) fun j hij hjn hd => ?_
    by_cases hm : (σs (j + 1)).h b = (σs j).h b
    · exact hm
    exfalso
    have hne : i ≠ j := fun e => by subst e; rw [X.no] at hd; cases hd
    have hcf := (X.behind j (by omega) hjn hd).2
    have hW : c j ≠ .W := fun e => by rw [e] at hcf; revert hP hcf; cases c i <;> simp [conflict]
    obtain ⟨hjP, hor⟩ := H.mod hjn hm hW
    have hciW : c i ≠ .W := fun e => by rw [e] at hcf; revert hjP hcf; cases c j <;> simp [conflict]
    rcases hor with hb | ⟨hF, hb0, _, _⟩
    · have := H.unborn hjn i (by omega)
      rw [← hb] at this
      exact hsome.elim (fun h => h this) hciW
    · rw [hF] at hcf
      have : c i = .L := by revert hP hcf hciW; cases c i <;> simp [conflict]
      have := hL this; omega
  rw [e2]
  refine gD_eq1 b i fun j hj hm => ?_
  cases hd : D j with
  | true => rfl
  | false =>
    exfalso
    have hjn : j < n := by have := X.lt; omega
    have hcf := (X.before j hj hd).2
    have hW : c j ≠ .W := fun e => by rw [e] at hcf; revert hP hcf; cases c i <;> simp [conflict]
    obtain ⟨hjP, hor⟩ := H.mod hjn hm hW
    rcases hor with hb | ⟨hF, hb0, _, _⟩
    · exact hs j hjn hd hb
    · rw [hF] at hcf
      have : c i = .L := by revert hP hcf; cases c i <;> simp [conflict]
      have := hL this; omega

theorem Next.slots {H : Rec P N ops n0 n σs c o v u} {i : Nat} (X : Next H D i) {x : Nat} (hx : x ∈ (o i).looksAt ops) : tD σs o D n x = (σs i).t x := by
  have e2 : tD σs o D n x = tD σs o D i x := by
    refine tD_eq2 x i n (by have := X.lt; omega) fun j hij hjn hd he => ?_
    have hne : i ≠ j := fun e => by subst e; rw [X.no] at hd; cases hd
    exact (Oper.apart_spec (X.behind j (by omega) hjn hd).1).2.2 x he hx
  rw [e2]
  refine tD_eq1 H x i (by have := X.lt; omega) fun j hj he => ?_
  cases hd : D j with
  | true => rfl
  | false => exact absurd hx ((Oper.apart_spec (X.before j hj hd).1).1 x he)

theorem Next.xs {H : Rec P N ops n0 n σs c o v u} {i : Nat} (X : Next H D i) (hW : c i = .W) : xD σs c D n = (σs i).x := by
  have e2 : xD σs c D n = xD σs c D i := by
    refine xD_eq2 i n (by have := X.lt; omega) fun j hij hjn hd he => ?_
    have hne : i ≠ j := fun e => by subst e; rw [X.no] at hd; cases hd
    have := (X.behind j (by omega) hjn hd).2
    rw [hW, he] at this; simp [conflict] at this
  rw [e2]
  refine xD_eq1 H i (by have := X.lt; omega) fun j hj he => ?_
  cases hd : D j with
  | true => rfl
  | false =>
    have := (X.before j hj hd).2
    rw [hW, he] at this; simp [conflict] at this

/-- One more. -/
def more (D : Nat → Bool) (i : Nat) : Nat → Bool := fun j => j == i || D j

theorem tD_more {i : Nat} (H : Rec P N ops n0 n σs c o v u) (X : Next H D i) (x : Nat) : tD σs o (more D i) n x = if (o i).dst = some x then v i else tD σs o D n x := by
  have hi := X.lt
  by_cases hd : (o i).dst = some x
  · rw [if_pos hd]
    have e1 : tD σs o (more D i) n x = tD σs o (more D i) (i + 1) x := tD_eq2 x (i + 1) n (by omega) fun j hij hjn hD he => by
      have hne : ¬ j = i := by omega
      have hDj : D j = true := by simpa [more, hne] using hD
      exact (Oper.apart_spec (X.behind j (by omega) hjn hDj).1).2.1 x hd he
    rw [e1]
    simp only [tD, more]
    simp only [beq_self_eq_true, Bool.true_or, true_and, hd, if_true]
    rw [(H.op i hi).t, hd]
    simp [put]
  · rw [if_neg hd]
    have key : ∀ k, tD σs o (more D i) k x = tD σs o D k x := by
      intro k
      induction k with
      | zero => rfl
      | succ k ih =>
        simp only [tD]
        by_cases hk : k = i
        · subst hk
          rw [if_neg (fun h => hd h.2), if_neg (fun h => hd h.2)]; exact ih
        · have : more D i k = D k := by simp [more, hk]
          rw [this, ih]
    exact key n

theorem gD_more_ne {i b : Nat} (hm : (σs (i + 1)).h b = (σs i).h b) : ∀ k, gD σs (more D i) k b = gD σs D k b
  | 0 => rfl
  | k + 1 => by
    simp only [gD]
    by_cases hk : k = i
    · subst hk
      rw [if_neg (fun h => h.2 hm), if_neg (fun h => h.2 hm)]; exact gD_more_ne hm k
    · have : more D i k = D k := by simp [more, hk]
      rw [this, gD_more_ne hm k]

theorem gD_more {i b : Nat} (hi : i < n) (hm : (σs (i + 1)).h b ≠ (σs i).h b) (hl : ∀ j, i < j → j < n → D j = true → (σs (j + 1)).h b = (σs j).h b) : gD σs (more D i) n b = (σs (i + 1)).h b := by
  have e1 : gD σs (more D i) n b = gD σs (more D i) (i + 1) b := gD_eq2 b (i + 1) n (by omega) fun j hij hjn hD => by
    have hne : ¬ j = i := by omega
    exact hl j (by omega) hjn (by simpa [more, hne] using hD)
  rw [e1]
  simp only [gD]
  rw [if_pos ⟨by simp [more], hm⟩]

theorem xD_more {i : Nat} (H : Rec P N ops n0 n σs c o v u) (X : Next H D i) : xD σs c (more D i) n = if c i = .W then (σs (i + 1)).x else xD σs c D n := by
  have hi := X.lt
  by_cases hW : c i = .W
  · rw [if_pos hW]
    have e1 : xD σs c (more D i) n = xD σs c (more D i) (i + 1) := xD_eq2 (i + 1) n (by omega) fun j hij hjn hD he => by
      have hne : ¬ j = i := by omega
      have hDj : D j = true := by simpa [more, hne] using hD
      have := (X.behind j (by omega) hjn hDj).2
      rw [hW, he] at this; simp [conflict] at this
    rw [e1]
    simp [xD, more, hW]
  · rw [if_neg hW]
    have key : ∀ k, xD σs c (more D i) k = xD σs c D k := by
      intro k
      induction k with
      | zero => rfl
      | succ k ih =>
        simp only [xD]
        by_cases hk : k = i
        · subst hk
          rw [if_neg (fun h => hW h.2), if_neg (fun h => hW h.2)]; exact ih
        · have : more D i k = D k := by simp [more, hk]
          rw [this, ih]
    exact key n

end
end Go.Av

/-
  A region that draws its order, in the model. Conditions: none.
-/
namespace Go.Av

theorem upds_val : ∀ (u : Upd) (h : Heap) (b : Nat), (∃ y ∈ u, y.1 = b) → ∃ y ∈ u, y.1 = b ∧ upds h u b = y.2
  | [], _, _, hx => by obtain ⟨_, h, _⟩ := hx; cases h
  | (c, o) :: u, h, b, hx => by
    by_cases hin : ∃ y ∈ u, y.1 = b
    · obtain ⟨y, hy, h1, h2⟩ := upds_val u (upd h c o) b hin
      exact ⟨y, by simp [hy], h1, h2⟩
    · have hno : ∀ y ∈ u, y.1 ≠ b := fun y hm e => hin ⟨y, hm, e⟩
      obtain ⟨y, hy, he⟩ := hx
      rcases List.mem_cons.1 hy with rfl | hy
      · simp only at he; subst he
        exact ⟨(c, o), by simp, rfl, by show upds (upd h c o) u c = o; rw [upds_notin u _ c hno, upd_same]⟩
      · exact absurd he (hno y hy)

theorem Rel.lessm {w : World} {S F : Nat → Prop} {m : Pm} {g g' : Heap} (h : Rel w S F m g) (hg : ∀ b o p, m b = some p → g' b = some o → g b = some o) : Rel w S F m g' :=
  ⟨fun c o p hc hm => h.content c o p (hg _ _ _ hm hc) hm, fun c d o₁ o₂ p₁ p₂ g₁ g₂ q₁ q₂ => h.disj c d o₁ o₂ p₁ p₂ (hg _ _ _ q₁ g₁) (hg _ _ _ q₂ g₂) q₁ q₂,
    fun c o p hc hm => h.apart c o p (hg _ _ _ hm hc) hm, h.inS, h.inF, h.inm⟩

section
variable {P : Program} {N : Nat} {ops : Array Oper} {n0 n : Nat} {σs : Nat → OS} {c : Nat → Cls} {o : Nat → Oper} {v : Nat → AV} {u : Nat → Upd} {D : Nat → Bool}

/-- What holds when the operations of D have come. -/
def Inv (P : Program) (N n0 n : Nat) (σs : Nat → OS) (c : Nat → Cls) (o : Nat → Oper) (u : Nat → Upd) (w0 : World) (S0 F : Nat → Prop) (m0 : Pm) (a0 : Act) (D : Nat → Bool) (a : Act) (w : World) : Prop :=
  (∀ j, j < n → D j = true → ∀ p ∈ preds (o j), D p = true) ∧ (∀ k, k < n → D k = true → c k = .F → ∀ y ∈ u k, y.1 ≠ n0 + k → ∀ i, i < n → y.1 = n0 + i → D i = true) ∧
  ∃ S m, Ext (fun k => S0 k ∨ F k) w0 w ∧ (∀ k, S0 k → S k) ∧ (∀ k, S k → S0 k ∨ w0.heap.size ≤ k) ∧ (∀ b p, m0 b = some p → m b = some p) ∧ (∀ b, b < n0 → m b = m0 b) ∧
    (∀ i, i < n → D i = false → m (n0 + i) = none) ∧ (∀ b, xD σs c D n ≤ b → m b = none) ∧ TR w S m N (tD σs o D n) a ∧ Rel w S F m (gD σs D n) ∧ a.defers = a0.defers

theorem gD_slot (H : Rec P N ops n0 n σs c o v u) {i : Nat} (X : Next H D i) (hP : c i ≠ .P)
    (hkill : ∀ k, k < n → D k = true → c k = .F → ∀ y ∈ u k, y.1 ≠ n0 + k → ∀ i, i < n → y.1 = n0 + i → D i = true) : gD σs D n (n0 + i) = none := by
  have hi := X.lt
  have e : gD σs D n (n0 + i) = gD σs D 0 (n0 + i) := by
    refine gD_eq2 (n0 + i) 0 n (by omega) fun j _ hjn hd => ?_
    by_cases hji : j < i
    · rw [H.unborn hi (j + 1) (by omega), H.unborn hi j (by omega)]
    · have hne : i ≠ j := fun e => by subst e; rw [X.no] at hd; cases hd
      by_cases hm : (σs (j + 1)).h (n0 + i) = (σs j).h (n0 + i)
      · exact hm
      exfalso
      have hcf := (X.behind j (by omega) hjn hd).2
      have hW : c j ≠ .W := fun e => by rw [e] at hcf; revert hP hcf; cases c i <;> simp [conflict]
      obtain ⟨hjP, hor⟩ := H.mod hjn hm hW
      rcases hor with hb | ⟨hF, hb0, _, y, hy, hyb, hyn⟩
      · omega
      · have := hkill j hjn hd hF y hy hyn i hi hyb
        rw [X.no] at this; cases this
  rw [e]
  exact H.fresh0 _ (by omega)

theorem Inv.step (H : Rec P N ops n0 n σs c o v u) {w0 : World} {S0 F : Nat → Prop} {m0 : Pm} {a0 a : Act} {w : World} (hI : Inv P N n0 n σs c o u w0 S0 F m0 a0 D a w) {i : Nat} (hi : i < n) (hno : D i = false)
    (hp : ∀ p ∈ preds (o i), D p = true) {Q : Exit → Act → World → Prop} {K : Act → World → Prop} (hK : ∀ a' w', Inv P N n0 n σs c o u w0 S0 F m0 a0 (more D i) a' w' → K a' w') : wpOp P ops Q i K a w := by
  obtain ⟨hcl, hkill, S, m, i1, i2, i3, i4, i5, i6, i7, i8, i9, i10⟩ := hI
  have X : Next H D i := Next.of H hcl hi hno hp
  have hop := H.op i hi
  have hxi := H.xmono i (by omega)
  refine hop.sim w S F m a (gD σs D n) i9 (fun b o' p hP hL hm hb => ?_) (fun x hx => by rw [← X.slots hx]; exact i8.2 x) (i6 i hi hno) (fun hW b hb => i7 b (by rw [X.xs hW]; exact hb)) (H.fresh i (by omega)) (by omega) Q K
    fun v' w' S' m' e1 e2 e3 e4 e5 e6 ek e7 e8 e9 => hK _ _ ?_
  · rw [X.sees hP (fun j hj hd e => by rw [e, i6 j hj hd] at hm; cases hm) hL (.inl (by rw [hb]; simp))]; exact hb
  have old : ∀ b, b < n0 + n → b ≠ n0 + i → m' b = m b := fun b hb hne => by
    by_cases hW : c i = .W
    · exact (e6 hW).1 b (by omega) hne
    · exact e5 hW b hne
  refine ⟨fun j hj hd p hpj => ?_, fun k hk hd hF y hy hyn i' hi' hyi => ?_, S', m', i1.trans e1 (fun k hk => hk.imp (i2 k) id), fun k hk => e2 k (i2 k hk), fun k hk => ?_, fun b p hb => e4 b p (i4 b p hb), fun b hb => ?_,
    fun j hj hd => ?_, fun b hb => ?_, ?_, ?_, i10 ▸ (by cases (o i).dst <;> rfl)⟩
  · by_cases hji : j = i
    · subst hji; simp [more, hp p hpj]
    · simp [more, hcl j hj (by simpa [more, hji] using hd) p hpj]
  · by_cases hki : k = i
    · subst hki
      obtain ⟨p, hm⟩ := ek (by rw [hF]; simp) y hy hyn
      cases hd' : D i' with
      | true => simp [more, hd']
      | false => rw [hyi, i6 i' hi' hd'] at hm; cases hm
    · have := hkill k hk (by simpa [more, hki] using hd) hF y hy hyn i' hi' hyi
      simp [more, this]
  · rcases e3 k hk with h | h
    · exact i3 k h
    · exact .inr (Nat.le_trans i1.size h)
  · rw [old b (by omega) (by omega), i5 b hb]
  · have hji : j ≠ i := fun e => by subst e; simp [more] at hd
    rw [old (n0 + j) (by omega) (by omega)]
    exact i6 j hj (by simpa [more, hji] using hd)
  · rw [xD_more H X] at hb
    by_cases hW : c i = .W
    · rw [if_pos hW] at hb; exact (e6 hW).2 b hb
    · rw [if_neg hW] at hb
      have := xD_ge (D := D) H n (Nat.le_refl _)
      rw [e5 hW b (by omega)]; exact i7 b hb
  · refine ⟨by have := i8.1; cases hdd : (o i).dst <;> simpa [Act.put] using this, fun x => ?_⟩
    rw [getD_put i8.1 hop.dst, tD_more H X]
    by_cases hd : (o i).dst = some x
    · rw [if_pos hd, if_pos hd]; exact e7
    · rw [if_neg hd, if_neg hd]; exact (i8.2 x).mono (e1.mono fun k hk => .inl hk) e2 e4
  · -- the memory
    have slot : ∀ b p, m' b = some p → b ≠ n0 + i → ∀ j, j < n → D j = false → b ≠ n0 + j := fun b p hm hne j hj hd e => by
      subst e
      rw [old _ (by omega) hne, i6 j hj hd] at hm; cases hm
    have key : ∀ b o' p, m' b = some p → gD σs (more D i) n b = some o' → (if c i = .W then (σs (i + 1)).h else upds (gD σs D n) (u i)) b = some o' := by
      intro b o' p hm hb
      by_cases hmod : (σs (i + 1)).h b = (σs i).h b
      · rw [gD_more_ne hmod] at hb
        by_cases hW : c i = .W
        · rw [if_pos hW, hmod]
          by_cases hbs : b = n0 + i
          · subst hbs
            rw [gD_slot H X (by rw [hW]; simp) hkill] at hb; cases hb
          · rw [← X.sees (by rw [hW]; simp) (slot b p hm hbs) (fun h => by rw [hW] at h; cases h) (.inr hW)]; exact hb
        · rw [if_neg hW]
          obtain ⟨_, h2, h3⟩ := hop.quiet hW
          rw [upds_notin]
          · exact hb
          · intro y hy he
            obtain ⟨y, hy, he, hval⟩ := upds_val (u i) (σs i).h b ⟨y, hy, he⟩
            rw [← h2, hmod] at hval
            rcases h3 y hy with ⟨k1, k2⟩ | ⟨_, _, k3, k4⟩
            · rw [← hval, ← he, k1, H.unborn hi i (Nat.le_refl _)] at k2; exact k2 rfl
            · rw [he, hval, k3] at k4; exact k4 rfl
      · have hgm : gD σs (more D i) n b = (σs (i + 1)).h b := by
          refine gD_more hi hmod fun j hij hjn hd => ?_
          by_cases hm2 : (σs (j + 1)).h b = (σs j).h b
          · exact hm2
          exfalso
          have hcf := (X.behind j hij hjn hd).2
          have hPi : c i ≠ .P := fun e => by
            have hq := hop.quiet (by rw [e]; simp)
            rw [hop.pure e] at hq
            exact hmod (by rw [hq.2.1]; rfl)
          have hWj : c j ≠ .W := fun e => by rw [e] at hcf; revert hPi hcf; cases c i <;> simp [conflict]
          obtain ⟨hjP, horj⟩ := H.mod hjn hm2 hWj
          have hWi : c i ≠ .W := fun e => by rw [e] at hcf; revert hjP hcf; cases c j <;> simp [conflict]
          obtain ⟨_, hori⟩ := H.mod hi hmod hWi
          rcases hori with hbi | ⟨hFi, _, hni, _⟩
          · rcases horj with hbj | ⟨hFj, _, _, y, hy, hyb, hyn⟩
            · omega
            · have := hkill j hjn hd hFj y hy hyn i hi (by rw [hyb, hbi])
              rw [hno] at this; cases this
          · rcases horj with hbj | ⟨hFj, _⟩
            · rw [hbj, H.unborn hjn i (by omega)] at hni; exact hni rfl
            · rw [hFi, hFj] at hcf; simp [conflict] at hcf
        rw [hgm] at hb
        by_cases hW : c i = .W
        · rw [if_pos hW]; exact hb
        · rw [if_neg hW]
          obtain ⟨_, h2, _⟩ := hop.quiet hW
          have hin : ∃ y ∈ u i, y.1 = b := by
            by_cases hh : ∃ y ∈ u i, y.1 = b
            · exact hh
            · exact absurd (by rw [h2, upds_notin _ _ _ fun y hy e => hh ⟨y, hy, e⟩]) hmod
          rw [upds_in (u i) _ (σs i).h b hin, ← h2]; exact hb
    by_cases hW : c i = .W
    · refine (e9 hW).lessm fun b o' p hm hb => ?_
      have := key b o' p hm hb
      rwa [if_pos hW] at this
    · refine (e8 hW).lessm fun b o' p hm hb => ?_
      have := key b o' p hm hb
      rwa [if_neg hW] at this

/-- How many are still to come. -/
def unl (D : Nat → Bool) : Nat → Nat
  | 0 => 0
  | k + 1 => unl D k + if D k then 0 else 1

theorem unl_more {i : Nat} (hi : D i = false) : ∀ k, unl (more D i) k + (if i < k then 1 else 0) = unl D k
  | 0 => rfl
  | k + 1 => by
    have ih := unl_more hi k
    simp only [unl]
    by_cases hk : k = i
    · subst hk
      have : ¬ (k < k) := Nat.lt_irrefl _
      rw [if_neg this] at ih
      simp [more, hi]; omega
    · have h1 : more D i k = D k := by simp [more, hk]
      rw [h1]
      by_cases h2 : i < k
      · have e : (if i < k + 1 then 1 else 0) = 1 := if_pos (by omega)
        rw [if_pos h2] at ih; rw [e]; omega
      · have e : (if i < k + 1 then 1 else 0) = 0 := if_neg (by omega)
        rw [if_neg h2] at ih; rw [e]; omega

theorem unl_zero : ∀ k, unl D k = 0 → ∀ j, j < k → D j = true
  | 0, _, j, h => by omega
  | k + 1, h, j, hj => by
    simp only [unl] at h
    by_cases hjk : j = k
    · subst hjk; cases hd : D j <;> simp [hd] at h ⊢
    · exact unl_zero k (by omega) j (by omega)

theorem draw_any (H : Rec P N ops n0 n σs c o v u) {w0 : World} {S0 F : Nat → Prop} {m0 : Pm} {a0 : Act} {Q : Exit → Act → World → Prop}
    (hQ : ∀ D a w, (∀ j, j < n → D j = true) → Inv P N n0 n σs c o u w0 S0 F m0 a0 D a w → Q .normal a w) :
    ∀ (fuel : Nat) (listed : Array Bool) (a : Act) (w : World), listed.size = n → Inv P N n0 n σs c o u w0 S0 F m0 a0 (fun j => listed.getD j false) a w → unl (fun j => listed.getD j false) n ≤ fuel →
      wpAny P .any ops Q fuel listed a w := by
  have rdy : ∀ (listed : Array Bool) (i : Nat), listed.size = n → i ∈ Region.ready .any ops listed → i < n ∧ listed.getD i false = false ∧ ∀ p ∈ preds (o i), listed.getD p false = true := by
    intro listed i hs hi
    obtain ⟨h1, oi, h2, h3⟩ := mem_ready.1 hi
    have hin : i < n := by rw [← H.size]; exact (Array.getElem?_eq_some_iff.1 h2).1
    have ho : oi = o i := by have := (H.op i hin).op; rw [h2] at this; exact Option.some.inj this
    subst ho
    refine ⟨hin, ?_, fun p hp => ?_⟩
    · have : i < listed.size := by omega
      simp [this] at h1 ⊢; exact h1
    · unfold preds at hp
      rw [List.mem_filterMap] at hp
      obtain ⟨e, he, hb⟩ := hp
      split at hb
      · rename_i hbind
        simp only [Option.some.injEq] at hb; subst hb
        exact h3 e (by simpa using he) hbind
      · cases hb
  have all : ∀ (listed : Array Bool), listed.size = n → Region.ready .any ops listed = [] → ∀ j, j < n → listed.getD j false = true := by
    intro listed hs hr j
    induction j using Nat.strongRecOn with
    | _ j ih =>
      intro hj
      cases hd : listed.getD j false with
      | true => rfl
      | false =>
        exfalso
        have : j ∈ Region.ready .any ops listed := by
          rw [mem_ready]
          have hlt : j < listed.size := by omega
          refine ⟨by simp [hlt] at hd ⊢; exact hd, o j, (H.op j hj).op, fun e he hb => ?_⟩
          have hp : e.on ∈ preds (o j) := by
            unfold preds; rw [List.mem_filterMap]
            exact ⟨e, by simpa using he, by rw [if_pos hb]⟩
          have := H.preds j hj _ hp
          exact ih e.on this (by omega)
        rw [hr] at this; cases this
  intro fuel
  induction fuel with
  | zero =>
    intro listed a w hs hI hu
    have ha := unl_zero n (by omega : unl (fun j => listed.getD j false) n = 0)
    refine ⟨?_, hQ _ a w ha hI⟩
    cases hr : Region.ready .any ops listed with
    | nil => rfl
    | cons i l =>
      obtain ⟨h1, h2, _⟩ := rdy listed i hs (by rw [hr]; simp)
      have := ha i h1
      rw [h2] at this; cases this
  | succ fuel ih =>
    intro listed a w hs hI hu
    refine ⟨fun hr => hQ _ a w (all listed hs hr) hI, fun i hi => ?_⟩
    obtain ⟨h1, h2, h3⟩ := rdy listed i hs hi
    refine hI.step H h1 h2 h3 fun a' w' hI' => ?_
    have hD : (fun j => (listed.setIfInBounds i true).getD j false) = more (fun j => listed.getD j false) i := by
      funext j
      by_cases hji : j = i
      · subst hji
        have : j < listed.size := by omega
        simp [more, this]
      · have := getD_set_ne (listed := listed) false (Ne.symm hji)
        rw [this]; simp [more, hji]
    refine ih _ a' w' (by simpa using hs) (by rw [hD]; exact hI') ?_
    rw [hD]
    have := unl_more (D := fun j => listed.getD j false) h2 n
    rw [if_pos h1] at this
    omega

end
end Go.Av

/-
  What runs on abstract values runs so in the model. Conditions: none.
-/
namespace Go.Av

/-- The end of a piece of code. -/
def CQ (P : Program) (N : Nat) (e : AEx) (t' : Fr) (h' : Heap) (n' : Nat) (w : World) (S F : Nat → Prop) (m : Pm) (n : Nat) (a : Act) : Exit → Act → World → Prop :=
  fun ex a' w' => ExR e ex ∧ ∃ S' m', St w S F m n w' S' m' n' ∧ TR w' S' m' N t' a' ∧ Rel w' S' F m' h' ∧ a'.defers = a.defers

/-- Numbers only grow; what is empty stays so. -/
def AbsS (h : Heap) (n : Nat) (h' : Heap) (n' : Nat) : Prop := n ≤ n' ∧ (∀ b, b < n → h b = none → h' b = none) ∧ ((∀ b, n ≤ b → h b = none) → ∀ b, n' ≤ b → h' b = none)

theorem AbsS.refl (h : Heap) (n : Nat) : AbsS h n h n := ⟨Nat.le_refl _, fun _ _ h => h, fun h => h⟩

theorem AbsS.trans {h h1 h2 : Heap} {n n1 n2 : Nat} (a : AbsS h n h1 n1) (b : AbsS h1 n1 h2 n2) : AbsS h n h2 n2 :=
  ⟨Nat.le_trans a.1 b.1, fun x hx hh => b.2.1 x (Nat.lt_of_lt_of_le hx a.1) (a.2.1 x hx hh), fun hf => b.2.2 (a.2.2 hf)⟩

theorem St.trans {w w1 w2 : World} {S S1 S2 F : Nat → Prop} {m m1 m2 : Pm} {n n1 n2 : Nat} (a : St w S F m n w1 S1 m1 n1) (b : St w1 S1 F m1 n1 w2 S2 m2 n2) (h : n ≤ n1) : St w S F m n w2 S2 m2 n2 :=
  ⟨a.ext.trans b.ext fun k hk => hk.imp (a.grow k) id, fun k hk => b.grow k (a.grow k hk), fun k hk => (b.new k hk).elim (a.new k) fun h => .inr (Nat.le_trans a.ext.size h),
    fun x p hx => b.le x p (a.le x p hx), fun x hx => (b.old x (Nat.lt_of_lt_of_le hx h)).trans (a.old x hx), b.free⟩

/-- What is asked at the begin. -/
def Pre (N : Nat) (t : Fr) (h : Heap) (n : Nat) (w : World) (S F : Nat → Prop) (m : Pm) (a : Act) : Prop :=
  (∀ b, n ≤ b → h b = none) ∧ Rel w S F m h ∧ TR w S m N t a ∧ ∀ b, n ≤ b → m b = none

def CodeS (P : Program) (N : Nat) (c : Code) (t : Fr) (h : Heap) (n : Nat) (e : AEx) (t' : Fr) (h' : Heap) (n' : Nat) : Prop :=
  AbsS h n h' n' ∧ (∀ w S F m a, Pre N t h n w S F m a → c.wp P (CQ P N e t' h' n' w S F m n a) a w) ∧
    ∀ body, c = .loop body → ∃ r, ∀ w S F m a, Pre N t h n w S F m a → Code.rounds P body (CQ P N e t' h' n' w S F m n a) r a w

def ScpS (P : Program) (N : Nat) (body c : Code) (t : Fr) (h : Heap) (n : Nat) (e : AEx) (t' : Fr) (h' : Heap) (n' : Nat) : Prop :=
  AbsS h n h' n' ∧ ∀ w S F m a, Pre N t h n w S F m a → ∀ (b : Frame) (k : List Item) (cs : List Frame),
    ∃ ex a' w', CQ P N e t' h' n' w S F m n a ex a' w' ∧ Arrives P (lone (b.at a (.code c :: .inScope body :: k)) cs w) b k cs ex a' w'

def Snd (P : Program) : Job → Prop
  | .code N c t h n e t' h' n' => CodeS P N c t h n e t' h' n'
  | .scp N body c t h n e t' h' n' => ScpS P N body c t h n e t' h' n'
  | .op N ops n0 i σ c σ' => OpS P N ops n0 i σ c σ'
  | .ops N ops n0 l σ cs σ' => OpsS P N ops n0 l σ cs σ'
  | .fn f args h n res h' n' => FnS P f args h n res h' n'

theorem opsS_states {P : Program} {N : Nat} {ops : Array Oper} {n0 : Nat} : ∀ (k s : Nat) (σ : OS) (cs : List Cls) (σ' : OS), OpsS P N ops n0 (List.range' s k) σ cs σ' →
    ∃ σs : Nat → OS, σs s = σ ∧ σs (s + k) = σ' ∧ cs.length = k ∧ ∀ j, j < k → OpS P N ops n0 (s + j) (σs (s + j)) (cs.getD j .W) (σs (s + j + 1))
  | 0, s, σ, [], σ', h => by cases h; exact ⟨fun _ => σ, rfl, rfl, rfl, fun j hj => by omega⟩
  | 0, s, σ, _ :: _, σ', h => h.elim
  | k + 1, s, σ, [], σ', h => h.elim
  | k + 1, s, σ, c :: cs, σ', h => by
    rw [List.range'_succ] at h
    obtain ⟨σ1, h1, h2⟩ := h
    obtain ⟨σs, e1, e2, e3, e4⟩ := opsS_states k (s + 1) σ1 cs σ' h2
    refine ⟨fun x => if x ≤ s then σ else σs x, by simp, ?_, by simp [e3], fun j hj => ?_⟩
    · have : ¬ (s + (k + 1) ≤ s) := by omega
      simp only [this, if_false]
      rw [← e2]; congr 1; omega
    · cases j with
      | zero =>
        have : ¬ (s + 0 + 1 ≤ s) := by omega
        simp only [Nat.add_zero, Nat.le_refl, if_true]
        rw [if_neg (by omega), e1]
        exact h1
      | succ j =>
        have := e4 j (by omega)
        have n1 : ¬ (s + (j + 1) ≤ s) := by omega
        have n2 : ¬ (s + (j + 1) + 1 ≤ s) := by omega
        simp only [n1, n2, if_false]
        rw [show s + (j + 1) = s + 1 + j by omega]
        exact this

section
variable {P : Program} {Θ : Tab} {N : Nat}

theorem region_abs {ops : Array Oper} {t : Fr} {h : Heap} {n : Nat} {cs : List Cls} {t' : Fr} {h' : Heap} {n' : Nat} (hb : OpsS P N ops n (List.range ops.size) ⟨t, h, n + ops.size⟩ cs ⟨t', h', n'⟩) : AbsS h n h' n' := by
  obtain ⟨⟨h1, h2, h3⟩, _⟩ := seq_ops _ _ _ _ hb List.nodup_range (fun i hi => by have := List.mem_range.1 hi; simp only; omega)
  exact ⟨by simp only at h1; omega, fun b hb hh => h2 b (fun i _ => by omega) (by simp only; omega) hh, fun hf => h3 fun b hb => hf b (by simp only at hb; omega)⟩

theorem region_seq {id : Nat} {ops : Array Oper} {t : Fr} {h : Heap} {n : Nat} {cs : List Cls} {t' : Fr} {h' : Heap} {n' : Nat} (hb : OpsS P N ops n (List.range ops.size) ⟨t, h, n + ops.size⟩ cs ⟨t', h', n'⟩)
    {w : World} {S F : Nat → Prop} {m : Pm} {a : Act} (hp : Pre N t h n w S F m a) : (Code.region id ops false).wp P (CQ P N .normal t' h' n' w S F m n a) a w := by
  obtain ⟨p1, p2, p3, p4⟩ := hp
  refine wp_region ?_
  obtain ⟨_, hs⟩ := seq_ops _ _ _ _ hb List.nodup_range (fun i hi => by have := List.mem_range.1 hi; simp only; omega)
  refine hs w S F m a _ (fun b hb => p1 b (by simp only at hb; omega)) p2 p3 (fun i _ => p4 _ (by omega)) (fun b hb => p4 b (by simp only at hb; omega)) fun a' w' S' m' e1 e2 e3 e4 e5 e6 e7 e8 e9 => ?_
  exact ⟨trivial, S', m', ⟨e1, e2, e3, e4, fun b hb => e5 b (fun i _ => by omega) (by simp only; omega), e6⟩, e7, e8, e9⟩

theorem region_draw (hm : P.follows .mixedOrders = true) {id : Nat} {ops : Array Oper} {t : Fr} {h : Heap} {n : Nat} {cs : List Cls} {t' : Fr} {h' : Heap} {n' : Nat}
    (hb : OpsS P N ops n (List.range ops.size) ⟨t, h, n + ops.size⟩ cs ⟨t', h', n'⟩) (hd : drawOK ops cs = true) {w : World} {S F : Nat → Prop} {m : Pm} {a : Act} (hp : Pre N t h n w S F m a) :
    (Code.region id ops true).wp P (CQ P N .normal t' h' n' w S F m n a) a w := by
  obtain ⟨p1, p2, p3, p4⟩ := hp
  rw [List.range_eq_range'] at hb
  obtain ⟨σs, s1, s2, s3, s4⟩ := opsS_states _ _ _ _ _ hb
  simp only [Nat.zero_add] at s2 s4
  obtain ⟨d1, d2⟩ := drawOK_spec hd
  have hch : ∀ i : Nat, ∃ x : Oper × AV × Upd, i < ops.size → OpS1 P N ops n i (σs i) (cs.getD i .W) (σs (i + 1)) x.1 x.2.1 x.2.2 := by
    intro i
    by_cases hi : i < ops.size
    · obtain ⟨o, v, u, hx⟩ := s4 i hi
      exact ⟨(o, v, u), fun _ => hx⟩
    · exact ⟨default, fun h => absurd h hi⟩
  obtain ⟨x, hx⟩ := Classical.skolem.1 hch
  have H : Rec P N ops n ops.size σs (fun i => cs.getD i .W) (fun i => (x i).1) (fun i => (x i).2.1) (fun i => (x i).2.2) := by
    refine ⟨fun i hi => hx i hi, by rw [s1], fun b hb => by rw [s1]; exact p1 b hb, rfl, fun i hi => d1 i _ (hx i hi).op, fun i j hij hj => d2 i j _ _ (hx i (by omega)).op (hx j hj).op hij⟩
  refine wp_region_any hm ?_
  have hw : ({ w with drawn := w.drawn + 1 } : World) = w.drew := rfl
  rw [hw]
  have he : Ext (fun k => S k ∨ F k) w w.drew := (ext_drew w).old p2
  refine draw_any (w0 := w) (S0 := S) (F := F) (m0 := m) (a0 := a) H (fun D a' w' hall hI => ?_) ops.size (Array.replicate ops.size false) a w.drew (by simp) ?_ ?_
  · obtain ⟨_, _, S', m', i1, i2, i3, i4, i5, i6, i7, i8, i9, i10⟩ := hI
    have eg : ∀ b, gD σs D ops.size b = h' b := fun b => by rw [gD_eq1 b ops.size fun j hj _ => hall j hj, s2]
    have et : ∀ y, tD σs (fun i => (x i).1) D ops.size y = t' y := fun y => by rw [tD_eq1 H y ops.size (Nat.le_refl _) fun j hj _ => hall j hj, s2]
    have ex : xD σs (fun i => cs.getD i .W) D ops.size = n' := by rw [xD_eq1 H ops.size (Nat.le_refl _) fun j hj _ => hall j hj, s2]
    refine ⟨trivial, S', m', ⟨i1, i2, i3, i4, i5, fun b hb => i7 b (by rw [ex]; exact hb)⟩, ⟨i8.1, fun y => by rw [← et]; exact i8.2 y⟩, ?_, i10⟩
    have : gD σs D ops.size = h' := funext eg
    rw [← this]; exact i9
  · have hD : ∀ j, (Array.replicate ops.size false).getD j false = false := fun j => by
      by_cases hj : j < ops.size <;> simp [hj]
    have eg : ∀ b, gD σs (fun j => (Array.replicate ops.size false).getD j false) ops.size b = h b := fun b => by
      rw [gD_eq2 b 0 ops.size (by omega) fun j _ _ hd => by rw [hD j] at hd; cases hd]; simp only [gD]; rw [s1]
    have et : ∀ y, tD σs (fun i => (x i).1) (fun j => (Array.replicate ops.size false).getD j false) ops.size y = t y := fun y => by
      rw [tD_eq2 y 0 ops.size (by omega) fun j _ _ hd => by rw [hD j] at hd; cases hd]; simp only [tD]; rw [s1]
    have ex : xD σs (fun i => cs.getD i .W) (fun j => (Array.replicate ops.size false).getD j false) ops.size = n + ops.size := by
      rw [xD_eq2 0 ops.size (by omega) fun j _ _ hd => by rw [hD j] at hd; cases hd]; simp only [xD]; rw [s1]
    have hg : gD σs (fun j => (Array.replicate ops.size false).getD j false) ops.size = h := funext eg
    refine ⟨(fun j _ hd => absurd ((hD j).symm.trans hd) (by simp)), (fun k _ hd => absurd ((hD k).symm.trans hd) (by simp)), S, m, he, fun _ h => h, fun _ h => .inl h, fun _ _ h => h, fun _ _ => rfl, fun i _ _ => p4 _ (by omega),
      fun b hb => p4 b (by rw [ex] at hb; omega), ⟨p3.1, fun y => by rw [et]; exact (p3.2 y).mono (he.mono fun k hk => .inl hk) (fun _ h => h) (fun _ _ h => h)⟩, by rw [hg]; exact p2.drew, rfl⟩
  · have : ∀ k, unl (fun j => (Array.replicate ops.size false).getD j false) k ≤ k := by
      intro k
      induction k with
      | zero => exact Nat.le_refl _
      | succ k ih => simp only [unl]; split <;> omega
    exact this _

end
end Go.Av

/-
  What runs on abstract values runs so in the model: the main theorem. Conditions: none.
-/
namespace Go.Av

section
variable {P : Program} {Θ : Tab} {N : Nat}

theorem ExR.normal {ex : Exit} (h : ExR .normal ex) : ex = .normal := by cases ex <;> simp_all [ExR]
theorem ExR.exit {i : Nat} {ex : Exit} (h : ExR (.exit i) ex) : ex = .exit i := by cases ex <;> simp_all [ExR]
theorem ExR.goto {i : Nat} {ex : Exit} (h : ExR (.goto i) ex) : ex = .goto i := by cases ex <;> simp_all [ExR]
theorem ExR.ne {e : AEx} {ex : Exit} (h : ExR e ex) (he : e ≠ .normal) : ex ≠ .normal := by rintro rfl; cases e <;> simp_all [ExR]

theorem CQ.pre {e : AEx} {t t1 : Fr} {h h1 : Heap} {n n1 : Nat} {w w1 : World} {S F : Nat → Prop} {m : Pm} {a a1 : Act} {ex : Exit} (hp : Pre N t h n w S F m a) (ha : AbsS h n h1 n1)
    (hq : CQ P N e t1 h1 n1 w S F m n a ex a1 w1) : ∃ S1 m1, St w S F m n w1 S1 m1 n1 ∧ Pre N t1 h1 n1 w1 S1 F m1 a1 ∧ a1.defers = a.defers := by
  obtain ⟨_, S1, m1, k1, k2, k3, k4⟩ := hq
  exact ⟨S1, m1, k1, ⟨ha.2.2 hp.1, k3, k2, k1.free⟩, k4⟩

theorem CQ.comp {e : AEx} {t' : Fr} {h' : Heap} {n n1 n' : Nat} {w w1 w' : World} {S S1 F : Nat → Prop} {m m1 : Pm} {a a1 a' : Act} {ex : Exit} (hs : St w S F m n w1 S1 m1 n1) (hn : n ≤ n1) (hd : a1.defers = a.defers)
    (hq : CQ P N e t' h' n' w1 S1 F m1 n1 a1 ex a' w') : CQ P N e t' h' n' w S F m n a ex a' w' := by
  obtain ⟨k0, S2, m2, k1, k2, k3, k4⟩ := hq
  exact ⟨k0, S2, m2, hs.trans k1 hn, k2, k3, k4.trans hd⟩

theorem CQ.ex {e e' : AEx} {t' : Fr} {h' : Heap} {n n' : Nat} {w w' : World} {S F : Nat → Prop} {m : Pm} {a a' : Act} {ex ex' : Exit}
    (hq : CQ P N e t' h' n' w S F m n a ex a' w') (hx : ExR e' ex') : CQ P N e' t' h' n' w S F m n a ex' a' w' := ⟨hx, hq.2⟩

theorem ev_bool {w : World} {S : Nat → Prop} {m : Pm} {t : Fr} {a : Act} {c : Operand} {b : Bool} (h : TR w S m N t a) (hc : ev t c = some (.bool b)) : a.eval c = .bool b := by
  have := EV.of (w := w) (S := S) (m := m) (t := t) (a := a) (x := c) (fun i _ => h.2 i) _ hc
  generalize a.eval c = v at this ⊢
  cases this; rfl

theorem St.rfl {w : World} {S F : Nat → Prop} {m : Pm} {n : Nat} (h : ∀ b, n ≤ b → m b = none) : St w S F m n w S m n :=
  ⟨Ext.refl _ _, fun _ h => h, fun _ h => .inl h, fun _ _ h => h, fun _ _ => Eq.refl _, h⟩

theorem snd_seq {x y : Code} {t t1 t' : Fr} {h h1 h' : Heap} {n n1 n' : Nat} {e : AEx} (ha : CodeS P N x t h n .normal t1 h1 n1) (hb : CodeS P N y t1 h1 n1 e t' h' n') : CodeS P N (.seq x y) t h n e t' h' n' := by
  refine ⟨ha.1.trans hb.1, fun w S F m a hp => ?_, fun body hc => by cases hc⟩
  refine wp_seq (wp_mono (ha.2.1 w S F m a hp) fun ex a1 w1 hq => ?_)
  obtain rfl := ExR.normal hq.1
  obtain ⟨S1, m1, k1, k2, k3⟩ := hq.pre hp ha.1
  exact wp_mono (hb.2.1 w1 S1 F m1 a1 k2) fun ex a' w' hq' => CQ.comp k1 ha.1.1 k3 hq'

theorem snd_seqx {x y : Code} {t t' : Fr} {h h' : Heap} {n n' : Nat} {e : AEx} (he : e ≠ .normal) (ha : CodeS P N x t h n e t' h' n') : CodeS P N (.seq x y) t h n e t' h' n' := by
  refine ⟨ha.1, fun w S F m a hp => ?_, fun body hc => by cases hc⟩
  refine wp_seq (wp_mono (ha.2.1 w S F m a hp) fun ex a1 w1 hq => ?_)
  have := hq.1.ne he
  cases ex with
  | normal => exact absurd rfl this
  | _ => exact hq

theorem rounds_mono {c : Code} {Q Q' : Exit → Act → World → Prop} (hq : ∀ e a w, Q e a w → Q' e a w) : ∀ (r : Nat) (a : Act) (w : World), Code.rounds P c Q r a w → Code.rounds P c Q' r a w
  | 0, _, _, h => h.elim
  | r + 1, a, w, h => by
    rw [rounds_succ] at h ⊢
    refine wp_mono h fun ex a' w' h' => ?_
    cases ex with
    | normal => exact rounds_mono hq r a' w' h'
    | _ => exact hq _ _ _ h'

theorem snd_loop {c : Code} {t t1 t' : Fr} {h h1 h' : Heap} {n n1 n' : Nat} {e : AEx} (ha : CodeS P N c t h n .normal t1 h1 n1) (hb : CodeS P N (.loop c) t1 h1 n1 e t' h' n') : CodeS P N (.loop c) t h n e t' h' n' := by
  obtain ⟨r, hr⟩ := hb.2.2 c rfl
  have key : ∀ w S F m a, Pre N t h n w S F m a → Code.rounds P c (CQ P N e t' h' n' w S F m n a) (r + 1) a w := by
    intro w S F m a hp
    rw [rounds_succ]
    refine wp_mono (ha.2.1 w S F m a hp) fun ex a1 w1 hq => ?_
    obtain rfl := ExR.normal hq.1
    obtain ⟨S1, m1, k1, k2, k3⟩ := hq.pre hp ha.1
    have := hr w1 S1 F m1 a1 k2
    exact rounds_mono (fun ex a' w' hq' => CQ.comp k1 ha.1.1 k3 hq') r a1 w1 this
  exact ⟨ha.1.trans hb.1, fun w S F m a hp => wp_loop_rounds _ (key w S F m a hp), fun body hc => by cases hc; exact ⟨r + 1, key⟩⟩

theorem snd_loopE {c : Code} {t t' : Fr} {h h' : Heap} {n n' : Nat} {e : AEx} (he : e ≠ .normal) (ha : CodeS P N c t h n e t' h' n') : CodeS P N (.loop c) t h n e t' h' n' := by
  have key : ∀ w S F m a, Pre N t h n w S F m a → Code.rounds P c (CQ P N e t' h' n' w S F m n a) 1 a w := by
    intro w S F m a hp
    rw [rounds_succ]
    refine wp_mono (ha.2.1 w S F m a hp) fun ex a1 w1 hq => ?_
    have := hq.1.ne he
    cases ex with
    | normal => exact absurd rfl this
    | _ => exact hq
  exact ⟨ha.1, fun w S F m a hp => wp_loop_rounds _ (key w S F m a hp), fun body hc => by cases hc; exact ⟨1, key⟩⟩

theorem snd_block {id : Nat} {c : Code} {t t' : Fr} {h h' : Heap} {n n' : Nat} {e e' : AEx} (he : e = .normal ∧ e' = .normal ∨ e = .exit id ∧ e' = .normal ∨ e ≠ .exit id ∧ e' = e)
    (ha : CodeS P N c t h n e t' h' n') : CodeS P N (.block id c) t h n e' t' h' n' := by
  refine ⟨ha.1, fun w S F m a hp => ?_, fun body hc => by cases hc⟩
  refine wp_block (wp_mono (ha.2.1 w S F m a hp) fun ex a1 w1 hq => ?_)
  cases ex with
  | exit j =>
    simp only [Exit.inBlock]
    split
    · rename_i hj; subst hj
      rcases he with ⟨rfl, rfl⟩ | ⟨rfl, rfl⟩ | ⟨h1, rfl⟩
      · exact absurd hq.1 (by simp [ExR])
      · exact hq.ex trivial
      · have := hq.1
        cases e' <;> simp [ExR] at this
        subst this; exact absurd rfl h1
    · rename_i hj
      rcases he with ⟨rfl, rfl⟩ | ⟨rfl, rfl⟩ | ⟨h1, rfl⟩
      · exact absurd hq.1 (by simp [ExR])
      · exact absurd hq.1.symm hj
      · exact hq
  | normal =>
    rcases he with ⟨rfl, rfl⟩ | ⟨rfl, rfl⟩ | ⟨h1, rfl⟩
    · exact hq
    · exact absurd hq.1 (by simp [ExR])
    · exact hq
  | _ =>
    rcases he with ⟨rfl, rfl⟩ | ⟨rfl, rfl⟩ | ⟨h1, rfl⟩
    · exact absurd hq.1 (by simp [ExR])
    · exact absurd hq.1 (by simp [ExR])
    · exact hq

theorem snd_scope {c : Code} {t t' : Fr} {h h' : Heap} {n n' : Nat} {e : AEx} (ha : ScpS P N c c t h n e t' h' n') : CodeS P N (.scope c) t h n e t' h' n' := by
  refine ⟨ha.1, fun w S F m a hp => ?_, fun body hc => by cases hc⟩
  intro b k cs
  obtain ⟨ex, a', w', hq, harr⟩ := ha.2 w S F m a hp b k cs
  exact ⟨ex, a', w', hq, .of_steps (.one step_scope) harr⟩

theorem snd_scpD {body c : Code} {t t' : Fr} {h h' : Heap} {n n' : Nat} {e : AEx} (he : ∀ l, e ≠ .goto l) (ha : CodeS P N c t h n e t' h' n') : ScpS P N body c t h n e t' h' n' := by
  refine ⟨ha.1, fun w S F m a hp b k cs => ?_⟩
  obtain ⟨ex, a₁, w₁, hq, harr⟩ := ha.2.1 w S F m a hp b (.inScope body :: k) cs
  cases ex with
  | normal => exact ⟨.normal, a₁, w₁, hq, Steps.trans harr (.one step_inScope)⟩
  | exit id => exact ⟨.exit id, a₁, w₁, hq, fun k' hk => harr k' (by simp [exitTo, hk])⟩
  | goto l' =>
    have := hq.1
    cases e <;> simp [ExR] at this
    exact absurd rfl (he _)
  | ret => exact ⟨_, a₁, w₁, hq, harr⟩
  | panic ch => exact ⟨_, a₁, w₁, hq, harr⟩
  | outgrown => exact ⟨_, a₁, w₁, hq, harr⟩

theorem snd_scpG {body c rest : Code} {l : Nat} {t t1 t' : Fr} {h h1 h' : Heap} {n n1 n' : Nat} {e : AEx} (ha : CodeS P N c t h n (.goto l) t1 h1 n1) (hf : findLabel body l = some rest)
    (hr : ScpS P N body rest t1 h1 n1 e t' h' n') : ScpS P N body c t h n e t' h' n' := by
  refine ⟨ha.1.trans hr.1, fun w S F m a hp b k cs => ?_⟩
  obtain ⟨ex, a₁, w₁, hq, harr⟩ := ha.2.1 w S F m a hp b (.inScope body :: k) cs
  have := ExR.goto hq.1
  subst this
  have hg : gotoIn l (.inScope body :: k) = some (.code rest :: .inScope body :: k) := by simp [gotoIn, hf]
  obtain ⟨S1, m1, k1, k2, k3⟩ := hq.pre hp ha.1
  obtain ⟨e₂, a₂, w₂, hq₂, harr₂⟩ := hr.2 w₁ S1 F m1 a₁ k2 b k cs
  exact ⟨e₂, a₂, w₂, CQ.comp k1 ha.1.1 k3 hq₂, .of_steps (harr _ hg) harr₂⟩

theorem snd_forget {c : Code} {t t1 t' : Fr} {h h1 h' : Heap} {n n' : Nat} {e : AEx} (ht : ∀ x, t1 x = t x ∨ t1 x = .any) (hh : ∀ b, h1 b = h b ∨ h1 b = none) (ha : CodeS P N c t1 h1 n e t' h' n') : CodeS P N c t h n e t' h' n' := by
  have hn : ∀ b, h b = none → h1 b = none := fun b hb => (hh b).elim (fun h => h.trans hb) id
  have hp' : ∀ w S F m a, Pre N t h n w S F m a → Pre N t1 h1 n w S F m a := fun w S F m a hp =>
    ⟨fun b hb => hn b (hp.1 b hb), hp.2.1.less fun b o hb => (hh b).elim (fun h => h ▸ hb) (fun h => by rw [h] at hb; cases hb),
      ⟨hp.2.2.1.1, fun x => (ht x).elim (fun h => h ▸ hp.2.2.1.2 x) (fun h => h ▸ .any _)⟩, hp.2.2.2⟩
  refine ⟨⟨ha.1.1, fun b hb h => ha.1.2.1 b hb (hn b h), fun hf => ha.1.2.2 fun b hb => hn b (hf b hb)⟩, fun w S F m a hp => ha.2.1 w S F m a (hp' _ _ _ _ _ hp), fun body hc => ?_⟩
  obtain ⟨r, hr⟩ := ha.2.2 body hc
  exact ⟨r, fun w S F m a hp => hr w S F m a (hp' _ _ _ _ _ hp)⟩

theorem ares_list {Θ : Tab} {f : ResultVar → Sem Value} {w : World} {S : Nat → Prop} {m : Pm} {t : Fr} {h : Heap} (hf : ∀ r v, ares1 Θ t h r = some v → ∃ u, (f r).run P w = .ok u w ∧ VR w S m v u) : ∀ (rs : List ResultVar) (vs : List AV), aresL Θ t h rs = some vs →
    ∃ us : List Value, (rs.mapM (m := Sem) f).run P w = .ok us w ∧ LR w S m vs us
  | [], vs, hr => by simp only [aresL, Option.some.injEq] at hr; subst hr; exact ⟨[], by simp [Sem.run_pure], LR.nil⟩
  | r :: rs, vs, hr => by
    simp only [aresL] at hr
    split at hr
    · rename_i v vs' h1 h2
      simp only [Option.some.injEq] at hr; subst hr
      obtain ⟨u, hu1, hx⟩ := hf r v h1
      obtain ⟨us, hu, hL⟩ := ares_list hf rs vs' h2
      refine ⟨u :: us, ?_, LR.cons hx hL⟩
      simp only [List.mapM_cons, hu1, Sem.run_bind, Sem.run_pure, Result.andThen_ok, hu]
    · cases hr

theorem ares_ok {Θ : Tab} (hT : TabOK P Θ) {w : World} {S F : Nat → Prop} {m : Pm} {t : Fr} {a : Act} {h : Heap} {fn : Func} {v : AV} (hrel : Rel w S F m h) (ht : TR w S m N t a) (hr : ares Θ fn.results t h = some v) :
    ∃ u, (results fn a.tmps).run P w = .ok u w ∧ VR w S m v u := by
  have hf : ∀ r v, ares1 Θ t h r = some v → ∃ u, ((fun | .tmp t => pure (a.tmps.getD t undef) | .cell b t => do loadVar t (← asAddr (a.tmps.getD b undef)) : ResultVar → Sem Value) r).run P w = .ok u w ∧ VR w S m v u := by
    intro r v hv
    cases r with
    | tmp x => simp only [ares1, Option.some.injEq] at hv; subst hv; exact ⟨_, rfl, ht.2 x⟩
    | cell b ty =>
      simp only [ares1] at hv
      split at hv
      · rename_i ti hti
        split at hv
        · rename_i cs hcs
          obtain ⟨b', o, vs, hx, hl, hat, hz⟩ := rdCells_ok hcs (ht.2 b) (fun b o p _ hb hm => hrel.content b o p hb hm)
          obtain ⟨v', hr, hr'⟩ := loadVar_ok (hT _ _ hti) hl hat hz hv
          refine ⟨v', ?_, hr'⟩
          simp only [Sem.run_bind, hx, asAddr, Sem.run_pure, Result.andThen_ok, hr]
        · cases hv
      · cases hv
  unfold ares at hr
  unfold results
  rw [Array.mapM_eq_mapM_toList]
  split at hr
  · rename_i v' h1
    simp only [Option.some.injEq] at hr; subst hr
    obtain ⟨us, hu, hL⟩ := ares_list (P := P) hf _ _ h1
    obtain ⟨x, rfl⟩ : ∃ x, us = [x] := by
      have := hL.1
      match us, this with
      | [x], _ => exact ⟨x, rfl⟩
    refine ⟨x, ?_, hL.2 0 v' x rfl rfl⟩
    simp only [map_eq_pure_bind, Sem.run_bind, Sem.run_pure]
    refine (congrArg (fun r => (Result.andThen r _).andThen _) hu).trans ?_
    rfl
  · rename_i vs hne h1
    simp only [Option.some.injEq] at hr; subst hr
    obtain ⟨us, hu, hL⟩ := ares_list (P := P) hf _ _ h1
    refine ⟨.tuple us.toArray, ?_, .tup _ _ hL.1 hL.2⟩
    simp only [map_eq_pure_bind, Sem.run_bind, Sem.run_pure]
    refine (congrArg (fun r => (Result.andThen r _).andThen _) hu).trans ?_
    have : ¬ us.toArray.size = 1 := by
      intro h
      have : vs.length = 1 := by rw [← hL.1]; simpa using h
      match vs, this with
      | [x], _ => exact hne x rfl
    simp only [Result.andThen_ok, this, dif_neg, not_false_eq_true]
  · cases hr

theorem snd_fn {Θ : Tab} (hT0 : TabOK P Θ) {f : FuncId} {fn : Func} {c : Code} {args : List AV} {t' : Fr} {h h' : Heap} {n n' : Nat} {e : AEx} {res : AV} (hf : P.funcs[f]? = some fn) (hb : fn.body = some c) (hN : args.length ≤ fn.ntmps) (hn : fn.name ≠ "runtime.NumGoroutine")
    (ha : CodeS P fn.ntmps c (fr0 args) h n e t' h' n') (he : e = .normal ∨ e = .ret) (hr : ares Θ fn.results t' h' = some res) : FnS P f args h n res h' n' := by
  refine ⟨ha.1, ⟨fn, hf, by simp [hb], hn⟩, fun w S F m vs hx hrel hL hfr => ?_⟩
  refine calls_of_wp hf hb ?_
  have hT : TR w S m fn.ntmps (fr0 args) { tmps := vs.toArray ++ Array.replicate (fn.ntmps - vs.toArray.size) undef, defers := [] } := by
    refine ⟨by simp [hL.1]; omega, fun x => ?_⟩
    unfold fr0
    by_cases hx : x < args.length
    · have e1 : args.getD x .any = args[x] := by simp [hx]
      have hx' : x < vs.length := by rw [hL.1]; exact hx
      have e2 : (vs.toArray ++ Array.replicate (fn.ntmps - vs.toArray.size) undef).getD x undef = vs[x] := by
        rw [Array.getD_eq_getD_getElem?, Array.getElem?_append_left (by simpa using hx')]; simp [hx']
      rw [e1, e2]
      exact hL.2 x _ _ (by simp [hx]) (by simp [hx'])
    · have e1 : args.getD x .any = .any := by simp [Nat.le_of_not_lt hx]
      rw [e1]; exact .any _
  refine wp_mono (ha.2.1 w S F m _ ⟨hx, hrel, hT, hfr⟩) fun ex a' w' hq => ?_
  obtain ⟨hx, S', m', k1, k2, k3, k4⟩ := hq
  obtain ⟨u, hu, hv⟩ := ares_ok (P := P) hT0 k3 k2 hr
  rcases he with rfl | rfl
  · rw [ExR.normal hx]
    exact ⟨k4, u, hu, u, S', m', rfl, k1, hv, k3⟩
  · cases ex <;> simp [ExR] at hx
    exact ⟨k4, u, hu, u, S', m', rfl, k1, hv, k3⟩

/-- What runs on abstract values runs so in the model. -/
theorem sound (hT : TabOK P Θ) (hm : P.follows .mixedOrders = true) {j : Job} (h : Big P Θ j) : Snd P j := by
  induction h with
  | skip ho hg hd => exact op_skip ho hg hd
  | plain ho hg hd hop => exact op_plain hT ho hg hd hop
  | callH ho hg hd hop hc hf ha hb ih => exact op_callH ho hg hd hop hc hf ha ih
  | callP live ho hg hd hop hc hf ha hr hb hr' ih => exact op_callP live ho hg hd hop hc hf ha hr ih hr'
  | callT live ho hg hd hop hc hf ha hr hb hh hl hr' ih => exact op_callT live ho hg hd hop hc hf ha hr ih hh hl hr'
  | nil => exact rfl
  | cons h1 h2 ih1 ih2 => exact ⟨_, ih1, ih2⟩
  | cskip => exact ⟨AbsS.refl _ _, fun w S F m a hp => wp_skip ⟨trivial, S, m, St.rfl hp.2.2.2, hp.2.2.1, hp.2.1, rfl⟩, fun body hc => by cases hc⟩
  | label => exact ⟨AbsS.refl _ _, fun w S F m a hp => wp_label ⟨trivial, S, m, St.rfl hp.2.2.2, hp.2.2.1, hp.2.1, rfl⟩, fun body hc => by cases hc⟩
  | exit => exact ⟨AbsS.refl _ _, fun w S F m a hp => wp_exit ⟨rfl, S, m, St.rfl hp.2.2.2, hp.2.2.1, hp.2.1, rfl⟩, fun body hc => by cases hc⟩
  | goto => exact ⟨AbsS.refl _ _, fun w S F m a hp => wp_goto ⟨rfl, S, m, St.rfl hp.2.2.2, hp.2.2.1, hp.2.1, rfl⟩, fun body hc => by cases hc⟩
  | ret => exact ⟨AbsS.refl _ _, fun w S F m a hp => wp_ret ⟨trivial, S, m, St.rfl hp.2.2.2, hp.2.2.1, hp.2.1, rfl⟩, fun body hc => by cases hc⟩
  | @region N id ops draw t h n cs t' h' n' hb hd ih =>
    refine ⟨region_abs ih, fun w S F m a hp => ?_, fun body hc => by cases hc⟩
    cases draw with
    | false => exact region_seq ih hp
    | true => exact region_draw hm ih (hd rfl) hp
  | seq ha hb iha ihb => exact snd_seq iha ihb
  | seqx he ha ih => exact snd_seqx he ih
  | condT hc ha ih => exact ⟨ih.1, fun w S F m a hp => wp_cond_true (ev_bool hp.2.2.1 hc) (ih.2.1 w S F m a hp), fun body hc => by cases hc⟩
  | condF hc ha ih => exact ⟨ih.1, fun w S F m a hp => wp_cond_false (ev_bool hp.2.2.1 hc) (ih.2.1 w S F m a hp), fun body hc => by cases hc⟩
  | block hc ih => exact snd_block (.inl ⟨rfl, rfl⟩) ih
  | blockX hc ih => exact snd_block (.inr (.inl ⟨rfl, rfl⟩)) ih
  | blockE he he' hc ih => exact snd_block (.inr (.inr ⟨he', rfl⟩)) ih
  | loop hc hl ih1 ih2 => exact snd_loop ih1 ih2
  | loopE he hc ih => exact snd_loopE he ih
  | scope hc ih => exact snd_scope ih
  | scpD he hc ih => exact snd_scpD he ih
  | scpG hc hf hr ih1 ih2 => exact snd_scpG ih1 hf ih2
  | forget ht hh hc ih => exact snd_forget ht hh ih
  | fn hf hb hN hn hc he hr ih => exact snd_fn hT hf hb hN hn ih he hr

end
end Go.Av

/-
  The types' table, reckoned from the program. Conditions: none.
-/
namespace Go.Av

def ekOf : Option TypeDesc → Option EK
  | some .bool => some .bool
  | some (.int k) => some (.int k)
  | some .string => some .str
  | _ => none

/-- The kinds of a struct's cells, if each field is one cell. -/
def flatEq (P : Program) : Nat → List Field → Option (List EK)
  | _, [] => some []
  | j, f :: fs => if f.name ≠ "_" ∧ f.offset = j then match ekOf (P.underlying f.type), flatEq P (j + 1) fs with
      | some k, some ks => some (k :: ks)
      | _, _ => none
    else none

/-- An array's cells, if each element is one. -/
def rowEq (P : Program) (t : TypeId) : Option (Nat × EK) :=
  match P.underlying t with
  | some (.array n e) => match ekOf (P.underlying e), P.info? e, P.info? t with
    | some k, some _, some i => if P.cellsOf e = 1 ∧ i.size = n ∧ 0 < n then some (n, k) else none
    | _, _, _ => none
  | _ => none

/-- The same, where fields may be arrays. -/
def wideEq (P : Program) : Nat → List Field → Option (List EK)
  | _, [] => some []
  | j, f :: fs => if f.name ≠ "_" ∧ f.offset = j then match ekOf (P.underlying f.type) with
      | some k => match wideEq P (j + 1) fs with
        | some ks => some (k :: ks)
        | none => none
      | none => match rowEq P f.type with
        | some (n, k) => match wideEq P (j + n) fs with
          | some ks => some (List.replicate n k ++ ks)
          | none => none
        | none => none
    else none

def mkEq (P : Program) (t : TypeId) : Option (List EK) :=
  match P.underlying t with
  | some (.struct fs) => if P.eqGuardType P.depth t = false ∧ P.stoodInHeld t = false then flatEq P 0 fs.toList else none
  | _ => none

def mkEqW (P : Program) (t : TypeId) : Option (List EK) :=
  match P.underlying t with
  | some (.struct fs) => if P.eqGuardType P.depth t = false ∧ P.stoodInHeld t = false then wideEq P 0 fs.toList else none
  | _ => none

def mkField (P : Program) (f : Field) : Option (Nat × Nat × Bool) :=
  match P.info? f.type, P.underlying f.type with
  | some i, some d => some (f.offset, i.size, d.isRow)
  | _, _ => none

def mkKind (P : Program) : TypeDesc → TK
  | .bool => .bool
  | .int k => .int k
  | .string => .str
  | .struct fs => match fs.toList.mapM (mkField P) with
    | some l => .struct l
    | none => .plain
  | .array n e => match P.info? e, P.underlying e with
    | some i, some d => .array n i.size d.isRow
    | _, _ => .plain
  | .slice e => match P.info? e with
    | some i => match i.zero with
      | some z => match cvs z.cells.toList with
        | some zs => .slice i.size i.bytes zs
        | none => .plain
      | none => .plain
    | none => .plain
  | .map k e => match P.info? e, mkEq P k with
    | some i, some ks => match i.zero with
      | some z => match cv z with
        | some vz => if 2 ≤ ks.length then .map ks vz else .plain
        | none => .plain
      | none => .plain
    | _, _ => .plain
  | _ => .plain

def mkTI (P : Program) (t : TypeId) : Option TI :=
  match P.info? t, P.underlying t with
  | some i, some d => match i.zero with
    | some z => match cvs z.cells.toList with
      | some zs => some ⟨i.size, d.isRow, mkKind P d, zs, mkEqW P t⟩
      | none => none
    | none => none
  | _, _ => none

section
variable {P : Program}

theorem mapM_back {α β : Type} {f : α → Option β} : ∀ {l : List α} {r : List β}, l.mapM f = some r → r.length = l.length ∧ ∀ (j : Nat) (b : β), r[j]? = some b → ∃ a, l[j]? = some a ∧ f a = some b
  | [], r, h => by simp at h; subst h; simp
  | a :: l, r, h => by
    rw [List.mapM_cons] at h
    simp only [bind, Option.bind_eq_some_iff, pure, Option.some.injEq] at h
    obtain ⟨b, hb, bs, hbs, rfl⟩ := h
    obtain ⟨h1, h2⟩ := mapM_back hbs
    refine ⟨by simp [h1], fun j c hj => ?_⟩
    cases j with
    | zero => simp at hj; subst hj; exact ⟨a, by simp, hb⟩
    | succ j => simp at hj; simpa using h2 j c hj

theorem equal_cell {w : World} {S : Nat → Prop} {m : Pm} {e : TypeId} {k : EK} (he : ekOf (P.underlying e) = some k) {a b : AV} {x y : Value} {r : Bool} (d : Nat) (ha : VR w S m a x) (hb : VR w S m b y) (h : eq1 k a b = some r) :
    (Op.equalIn (d + 1) e x y).run P w = .ok r w := by
  unfold ekOf at he
  unfold eq1 at h
  split at he <;> simp only [Option.some.injEq, reduceCtorEq] at he <;> subst he
  · rename_i hu
    split at h <;> simp only [Option.some.injEq, reduceCtorEq] at * <;> try contradiction
    cases ha; cases hb; subst h
    exact run_equalIn_bool' w d e _ _ hu
  · rename_i k hu
    split at h <;> simp only [EK.int.injEq, reduceCtorEq] at * <;> try contradiction
    split at h
    · rename_i hk
      cases ha; cases hb; cases h
      obtain ⟨rfl, rfl⟩ := hk
      rename_i e1; subst e1
      exact run_equalIn_int w d e _ _ _ _ hu
    · cases h
  · rename_i hu
    split at h <;> simp only [Option.some.injEq, reduceCtorEq] at * <;> try contradiction
    cases ha; cases hb; subst h
    rw [run_equalIn_string w d e _ _ hu, beq_toListBytes]

theorem plain_of {e : TypeId} {k : EK} (he : ekOf (P.underlying e) = some k) : P.plainKey e = true := by
  unfold ekOf at he
  unfold Program.plainKey
  split at he <;> simp_all

theorem fields_ok {w : World} {S : Nat → Prop} {m : Pm} (d : Nat) {xs ys : List AV} {us vs : List Value} (hx : LR w S m xs us) (hy : LR w S m ys vs) : ∀ (fs : List Field) (j : Nat) (ks : List EK) (r : Bool),
    flatEq P j fs = some ks → eqs ks (xs.drop j) (ys.drop j) = some r → (Op.eqFields (d + 1) ⟨us⟩ ⟨vs⟩ fs).run P w = .ok r w
  | [], j, ks, r, hf, h => by
    simp only [flatEq, Option.some.injEq] at hf; subst hf
    unfold eqs at h
    split at h <;> simp_all [Op.eqFields]
  | f :: fs, j, ks, r, hf, h => by
    unfold flatEq at hf
    split at hf
    · rename_i hn
      split at hf
      · rename_i k ks' hk hks
        simp only [Option.some.injEq] at hf; subst hf
        cases hxd : xs.drop j with
        | nil => rw [hxd] at h; simp [eqs] at h
        | cons x xs' =>
          cases hyd : ys.drop j with
          | nil => rw [hxd, hyd] at h; simp [eqs] at h
          | cons y ys' =>
            rw [hxd, hyd] at h
            simp only [eqs] at h
            split at h
            · rename_i a b ha hb
              simp only [Option.some.injEq] at h; subst h
              have hxj : xs[j]? = some x := by
                have := congrArg (fun l => l[0]?) hxd; simpa using this
              have hyj : ys[j]? = some y := by
                have := congrArg (fun l => l[0]?) hyd; simpa using this
              have hx' : xs.drop (j + 1) = xs' := by rw [← List.drop_drop, hxd]; rfl
              have hy' : ys.drop (j + 1) = ys' := by rw [← List.drop_drop, hyd]; rfl
              obtain ⟨u, hu, hru⟩ := hx.get hxj
              obtain ⟨v, hv, hrv⟩ := hy.get hyj
              have ih := fields_ok d hx hy fs (j + 1) ks' b hks (by rw [hx', hy']; exact hb)
              have p1 := run_part_plain (P := P) w (plain_of hk) (xs := ⟨us⟩) (off := f.offset) (by rw [hn.2]; simpa using hu)
              have p2 := run_part_plain (P := P) w (plain_of hk) (xs := ⟨vs⟩) (off := f.offset) (by rw [hn.2]; simpa using hv)
              have p3 := equal_cell hk d hru hrv ha
              simp only [Op.eqFields, hn.1, ne_eq, not_false_eq_true, if_true, Sem.run_bind, p1, p2, p3, Result.andThen_ok]
              cases a
              · simp
              · simpa using ih
            · cases h
      · cases hf
    · cases hf

theorem mkEq_struct {t : TypeId} {ks : List EK} (h : mkEq P t = some ks) : ∃ fs, P.underlying t = some (.struct fs) := by
  unfold mkEq at h
  split at h
  · rename_i fs hu; exact ⟨fs, hu⟩
  · cases h

theorem mkEq_ok {t : TypeId} {ks : List EK} (hks : mkEq P t = some ks) {w : World} {S : Nat → Prop} {m : Pm} {xs ys : List AV} {us vs : List Value} {r : Bool} (hx : LR w S m xs us) (hy : LR w S m ys vs) (hr : eqs ks xs ys = some r) :
    P.eqGuardType P.depth t = false ∧ (Op.equal t (.agg ⟨us⟩) (.agg ⟨vs⟩)).run P w = .ok r w := by
  simp only [mkEq] at hks
  split at hks
  · rename_i fs hu
    split at hks
    · rename_i hg
      refine ⟨hg.1, ?_⟩
      have hfs : P.fieldsOf t = fs := by simp [Program.fieldsOf, hu]
      have := run_equalIn_struct w 9999 t ⟨us⟩ ⟨vs⟩ (by rw [hfs]; exact hu) hg.2
      rw [hfs] at this
      have h2 := fields_ok 9998 hx hy fs.toList 0 ks r hks (by simpa using hr)
      exact this.trans h2
    · cases hks
  · cases hks

theorem eqs_len : ∀ {ks : List EK} {xs ys : List AV} {r : Bool}, eqs ks xs ys = some r → xs.length = ks.length ∧ ys.length = ks.length
  | [], [], [], r, h => ⟨rfl, rfl⟩
  | [], [], _ :: _, r, h => by simp [eqs] at h
  | [], _ :: _, _, r, h => by simp [eqs] at h
  | _ :: _, [], _, r, h => by simp [eqs] at h
  | _ :: _, _ :: _, [], r, h => by simp [eqs] at h
  | k :: ks, x :: xs, y :: ys, r, h => by
    simp only [eqs] at h
    split at h
    · rename_i a b ha hb
      obtain ⟨h1, h2⟩ := eqs_len hb
      exact ⟨by simp [h1], by simp [h2]⟩
    · cases h

theorem cellEq_len {ks : List EK} {a b : AV} {r : Bool} (h : cellEq ks a b = some r) : (∃ xs, cellsOf a = some xs ∧ xs.length = ks.length) ∧ ∃ ys, cellsOf b = some ys ∧ ys.length = ks.length := by
  unfold cellEq at h
  split at h
  · rename_i xs ys hx hy
    obtain ⟨h1, h2⟩ := eqs_len h
    exact ⟨⟨xs, hx, h1⟩, ys, hy, h2⟩
  · cases h

theorem cells_agg {w : World} {S : Nat → Prop} {m : Pm} {ks : List EK} (hl : 2 ≤ ks.length) {a : AV} {x : Value} (hx : VR w S m a x) (h : ∃ xs, cellsOf a = some xs ∧ xs.length = ks.length) : ∃ xs us, a = .agg xs ∧ x = .agg ⟨us⟩ ∧ LR w S m xs us := by
  obtain ⟨xs, h1, h2⟩ := h
  cases a <;> simp only [cellsOf, Option.some.injEq, reduceCtorEq] at h1
  case agg cs =>
    subst h1
    cases hx with
    | agg _ us k1 k2 => exact ⟨cs, us, rfl, rfl, k1, k2⟩
  all_goals (subst h1; simp only [List.length_cons, List.length_nil] at h2; omega)

theorem check_cell {e : TypeId} {k : EK} (he : ekOf (P.underlying e) = some k) (em : Bool) (d : Nat) (x : Value) (w : World) : (Instr.checkKey em (d + 1) e x).run P w = .ok () w := by
  unfold ekOf at he
  split at he <;> simp only [Option.some.injEq, reduceCtorEq] at he <;> subst he
  all_goals (rename_i hu; unfold Instr.checkKey; simp only [Sem.run_bind, run_underlying hu, Result.andThen_ok]; cases x <;> simp)

theorem check_fields {w : World} {S : Nat → Prop} {m : Pm} (em : Bool) (d : Nat) {xs : List AV} {us : List Value} (hx : LR w S m xs us) : ∀ (fs : List Field) (j : Nat) (ks : List EK), flatEq P j fs = some ks → ks.length + j ≤ xs.length →
    (forIn (m := Sem) fs PUnit.unit fun f _ => do
      if f.name ≠ "_" then Instr.checkKey em (d + 1) f.type (← part f.type ⟨us⟩ f.offset)
      pure (ForInStep.yield PUnit.unit)).run P w = .ok PUnit.unit w
  | [], j, ks, hf, hl => by simp
  | f :: fs, j, ks, hf, hl => by
    unfold flatEq at hf
    split at hf
    · rename_i hn
      split at hf
      · rename_i k ks' hk hks
        simp only [Option.some.injEq] at hf; subst hf
        simp only [List.length_cons] at hl
        obtain ⟨c, hc⟩ : ∃ c, xs[j]? = some c := ⟨xs[j]'(by omega), by simp [show j < xs.length by omega]⟩
        obtain ⟨u, hu, hru⟩ := hx.get hc
        have p1 := run_part_plain (P := P) w (plain_of hk) (xs := ⟨us⟩) (off := f.offset) (by rw [hn.2]; simpa using hu)
        have ih := check_fields em d hx fs (j + 1) ks' hks (by omega)
        simp only [List.forIn_cons, hn.1, ne_eq, not_false_eq_true, if_true, Sem.run_bind, p1, check_cell hk, Result.andThen_ok, Sem.run_pure]
        exact ih
      · cases hf
    · cases hf

theorem mkEq_check {t : TypeId} {ks : List EK} (hks : mkEq P t = some ks) (hlen : 2 ≤ ks.length) {w : World} {S : Nat → Prop} {m : Pm} {a : AV} {x : Value} (hx : VR w S m a x) (hk : keyOK ks a = true) (b : Bool) : (Instr.checkKey b 10000 t x).run P w = .ok () w := by
  unfold keyOK at hk
  obtain ⟨r, hr⟩ := Option.isSome_iff_exists.1 hk
  obtain ⟨xs, us, rfl, rfl, hl⟩ := cells_agg hlen hx (cellEq_len hr).1
  have hlx : xs.length = ks.length := (eqs_len (by simpa [cellEq, cellsOf] using hr)).1
  simp only [mkEq] at hks
  split at hks
  · rename_i fs hu
    split at hks
    · have := check_fields b 9998 hl fs.toList 0 ks hks (by omega)
      unfold Instr.checkKey
      simp only [Sem.run_bind, run_underlying hu, Result.andThen_ok]
      rw [← Array.forIn_toList]
      simp only [ne_eq, ite_not, bind_pure_comp, map_pure] at this ⊢
      first
        | exact this
        | (simp at this ⊢; rw [this]; rfl)
    · cases hks
  · cases hks

theorem kind_ok (d : TypeDesc) : KindOK P d (mkKind P d) := by
  unfold mkKind
  split
  · rfl
  · rfl
  · rfl
  · rename_i fs
    split
    · rename_i l hl
      obtain ⟨h1, h2⟩ := mapM_back hl
      refine ⟨fs, rfl, by simpa using h1, fun j o s g hj => ?_⟩
      obtain ⟨f, hf, he⟩ := h2 j _ hj
      unfold mkField at he
      split at he
      · rename_i i d' hi hd
        simp only [Option.some.injEq, Prod.mk.injEq] at he
        obtain ⟨rfl, rfl, rfl⟩ := he
        exact ⟨f, i, d', by simpa using hf, rfl, hi, rfl, hd, rfl⟩
      · cases he
    · trivial
  · rename_i n e
    split
    · rename_i i d' hi hd
      exact ⟨e, i, d', rfl, hi, rfl, hd, rfl⟩
    · trivial
  · rename_i e
    split
    · rename_i i hi
      split
      · rename_i z hz
        split
        · rename_i zs hzs
          exact ⟨e, i, z, rfl, hi, rfl, rfl, hz, fun w S m => cvs_ok hzs⟩
        · trivial
      · trivial
    · trivial
  · rename_i k e
    split
    · rename_i i ks hi hks
      split
      · rename_i z hz
        split
        · rename_i vz hvz
          split
          · rename_i hlen
            obtain ⟨fs, hfs⟩ := mkEq_struct hks
            refine ⟨k, e, i, z, rfl, hi, hz, fun w S m => cv_ok hvz, fun x w S m a hx hk b => ?_, fun x y w S m a b r hx hy hr => ?_, fs, hfs⟩
            · exact mkEq_check hks hlen hx hk b
            · obtain ⟨xs, us, rfl, rfl, hl⟩ := cells_agg hlen hx (cellEq_len hr).1
              obtain ⟨ys, vs, rfl, rfl, hl'⟩ := cells_agg hlen hy (cellEq_len hr).2
              exact (mkEq_ok hks hl hl' hr).2
          · trivial
        · trivial
      · trivial
    · trivial
  · trivial

theorem items_ok {w : World} {S : Nat → Prop} {m : Pm} (d : Nat) {e : TypeId} {k : EK} (he : ekOf (P.underlying e) = some k) (hc : P.cellsOf e = 1) {xs ys : List AV} {us vs : List Value} (hx : LR w S m xs us) (hy : LR w S m ys vs) : ∀ (n i : Nat) (r : Bool),
    eqs (List.replicate n k) ((xs.drop i).take n) ((ys.drop i).take n) = some r → (Op.eqItems (d + 1) e (P.cellsOf e) ⟨us⟩ ⟨vs⟩ (List.range' i n)).run P w = .ok r w
  | 0, i, r, h => by
    simp only [List.replicate, List.take_zero, eqs, Option.some.injEq] at h
    subst h
    simp [Op.eqItems]
  | n + 1, i, r, h => by
    cases hxd : xs.drop i with
    | nil => rw [hxd] at h; simp [eqs, List.replicate] at h
    | cons x xs' =>
      cases hyd : ys.drop i with
      | nil => rw [hxd, hyd] at h; simp [eqs, List.replicate] at h
      | cons y ys' =>
        rw [hxd, hyd] at h
        simp only [List.replicate, List.take_succ_cons, eqs] at h
        split at h
        · rename_i a b ha hb
          simp only [Option.some.injEq] at h; subst h
          have hxj : xs[i]? = some x := by
            have := congrArg (fun l => l[0]?) hxd; simpa using this
          have hyj : ys[i]? = some y := by
            have := congrArg (fun l => l[0]?) hyd; simpa using this
          have hx' : xs.drop (i + 1) = xs' := by rw [← List.drop_drop, hxd]; rfl
          have hy' : ys.drop (i + 1) = ys' := by rw [← List.drop_drop, hyd]; rfl
          obtain ⟨u, hu, hru⟩ := hx.get hxj
          obtain ⟨v, hv, hrv⟩ := hy.get hyj
          have ih := items_ok d he hc hx hy n (i + 1) b (by rw [hx', hy']; exact hb)
          have p1 := run_part_plain (P := P) w (plain_of he) (xs := ⟨us⟩) (off := i * P.cellsOf e) (by rw [hc, Nat.mul_one]; simpa using hu)
          have p2 := run_part_plain (P := P) w (plain_of he) (xs := ⟨vs⟩) (off := i * P.cellsOf e) (by rw [hc, Nat.mul_one]; simpa using hv)
          have p3 := equal_cell he d hru hrv ha
          simp only [List.range'_succ, Op.eqItems, Sem.run_bind, p1, p2, p3, Result.andThen_ok]
          cases a
          · simp
          · simpa using ih
        · cases h

theorem eqs_app : ∀ {ks ls : List EK} {xs ys : List AV} {r : Bool}, eqs (ks ++ ls) xs ys = some r → ∃ a b, eqs ks (xs.take ks.length) (ys.take ks.length) = some a ∧ eqs ls (xs.drop ks.length) (ys.drop ks.length) = some b ∧ r = (a && b)
  | [], ls, xs, ys, r, h => ⟨true, r, by simp [eqs], by simpa using h, by simp⟩
  | k :: ks, ls, xs, ys, r, h => by
    rw [List.cons_append] at h
    cases xs with
    | nil => simp [eqs] at h
    | cons x xs =>
      cases ys with
      | nil => simp [eqs] at h
      | cons y ys =>
        simp only [eqs] at h
        split at h
        · rename_i a b ha hb
          simp only [Option.some.injEq] at h; subst h
          obtain ⟨a', b', h1, h2, rfl⟩ := eqs_app hb
          exact ⟨a && a', b', by simp [eqs, ha, h1], by simpa using h2, by simp [Bool.and_assoc]⟩
        · cases h

theorem wide_ok {w : World} {S : Nat → Prop} {m : Pm} (d : Nat) {xs ys : List AV} {us vs : List Value} (hx : LR w S m xs us) (hy : LR w S m ys vs) : ∀ (fs : List Field) (j : Nat) (ks : List EK) (r : Bool),
    wideEq P j fs = some ks → eqs ks (xs.drop j) (ys.drop j) = some r → (Op.eqFields (d + 2) ⟨us⟩ ⟨vs⟩ fs).run P w = .ok r w
  | [], j, ks, r, hf, h => by
    simp only [wideEq, Option.some.injEq] at hf; subst hf
    unfold eqs at h
    split at h <;> simp_all [Op.eqFields]
  | f :: fs, j, ks, r, hf, h => by
    unfold wideEq at hf
    split at hf
    · rename_i hn
      split at hf
      · rename_i k hk
        split at hf
        · rename_i ks' hks
          simp only [Option.some.injEq] at hf; subst hf
          cases hxd : xs.drop j with
          | nil => rw [hxd] at h; simp [eqs] at h
          | cons x xs' =>
            cases hyd : ys.drop j with
            | nil => rw [hxd, hyd] at h; simp [eqs] at h
            | cons y ys' =>
              rw [hxd, hyd] at h
              simp only [eqs] at h
              split at h
              · rename_i a b ha hb
                simp only [Option.some.injEq] at h; subst h
                have hxj : xs[j]? = some x := by
                  have := congrArg (fun l => l[0]?) hxd; simpa using this
                have hyj : ys[j]? = some y := by
                  have := congrArg (fun l => l[0]?) hyd; simpa using this
                have hx' : xs.drop (j + 1) = xs' := by rw [← List.drop_drop, hxd]; rfl
                have hy' : ys.drop (j + 1) = ys' := by rw [← List.drop_drop, hyd]; rfl
                obtain ⟨u, hu, hru⟩ := hx.get hxj
                obtain ⟨v, hv, hrv⟩ := hy.get hyj
                have ih := wide_ok d hx hy fs (j + 1) ks' b hks (by rw [hx', hy']; exact hb)
                have p1 := run_part_plain (P := P) w (plain_of hk) (xs := ⟨us⟩) (off := f.offset) (by rw [hn.2]; simpa using hu)
                have p2 := run_part_plain (P := P) w (plain_of hk) (xs := ⟨vs⟩) (off := f.offset) (by rw [hn.2]; simpa using hv)
                have p3 := equal_cell hk (d + 1) hru hrv ha
                simp only [Op.eqFields, hn.1, ne_eq, not_false_eq_true, if_true, Sem.run_bind, p1, p2, p3, Result.andThen_ok]
                cases a
                · simp
                · simpa using ih
              · cases h
        · cases hf
      · split at hf
        · rename_i n k hrow
          split at hf
          · rename_i ks' hks
            simp only [Option.some.injEq] at hf; subst hf
            obtain ⟨a, b, h1, h2, rfl⟩ := eqs_app h
            rw [List.length_replicate] at h1 h2
            unfold rowEq at hrow
            split at hrow
            · rename_i n' e hu
              split at hrow
              · rename_i k' i1 i2 hk hi he
                split at hrow
                · rename_i hcond
                  simp only [Option.some.injEq, Prod.mk.injEq] at hrow
                  obtain ⟨rfl, rfl⟩ := hrow
                  obtain ⟨l1, l2⟩ := eqs_len h1
                  simp only [List.length_take, List.length_drop, List.length_replicate] at l1 l2
                  obtain ⟨u, p1, hru⟩ := part_ok (P := P) he hu (gg := true) rfl hx (o := f.offset) (by rw [hn.2, hcond.2.1]; have := hcond.2.2; omega) (v := .agg ((xs.drop f.offset).take i2.size)) rfl
                  obtain ⟨v, p2, hrv⟩ := part_ok (P := P) he hu (gg := true) rfl hy (o := f.offset) (by rw [hn.2, hcond.2.1]; have := hcond.2.2; omega) (v := .agg ((ys.drop f.offset).take i2.size)) rfl
                  cases hru with
                  | agg _ us' q1 q2 =>
                  cases hrv with
                  | agg _ vs' q3 q4 =>
                  have ih := wide_ok d hx hy fs (j + n') ks' b hks (by rw [← List.drop_drop, ← List.drop_drop]; exact h2)
                  have p3 : (Op.equalIn (d + 2) f.type (.agg ⟨us'⟩) (.agg ⟨vs'⟩)).run P w = .ok a w := by
                    rw [run_equalIn_array w (d + 1) ⟨us'⟩ ⟨vs'⟩ hu hi]
                    rw [List.range_eq_range']
                    refine items_ok d hk hcond.1 (xs := (xs.drop f.offset).take i2.size) (ys := (ys.drop f.offset).take i2.size) ⟨q1, q2⟩ ⟨q3, q4⟩ n' 0 a ?_
                    rw [List.drop_zero, List.drop_zero, hn.2, hcond.2.1, List.take_take, List.take_take, Nat.min_self]
                    exact h1
                  simp only [Op.eqFields, hn.1, ne_eq, not_false_eq_true, if_true, Sem.run_bind, p1, p2, p3, Result.andThen_ok]
                  cases a
                  · simp
                  · simpa using ih
                · cases hrow
              · cases hrow
            · cases hrow
          · cases hf
        · cases hf
    · cases hf

theorem mkTI_ok {t : TypeId} {ti : TI} (h : mkTI P t = some ti) : TyOK P t ti := by
  unfold mkTI at h
  split at h
  · rename_i i d hi hd
    split at h
    · rename_i z hz
      split at h
      · rename_i zs hzs
        simp only [Option.some.injEq] at h; subst h
        refine ⟨⟨i, z, hi, rfl, hz, fun w S m => cvs_ok hzs⟩, ⟨d, hd, rfl, kind_ok d⟩, fun ks hks xs ys us vs w S m r hx hy hr => ?_⟩
        simp only [mkEqW] at hks
        split at hks
        · rename_i fs hu
          split at hks
          · rename_i hg
            refine ⟨hg.1, ?_⟩
            have hfs : P.fieldsOf t = fs := by simp [Program.fieldsOf, hu]
            have := run_equalIn_struct w 9999 t ⟨us⟩ ⟨vs⟩ (by rw [hfs]; exact hu) hg.2
            rw [hfs] at this
            have h2 := wide_ok 9997 hx hy fs.toList 0 ks r hks (by simpa using hr)
            exact this.trans h2
          · cases hks
        · cases hks
      · cases h
    · cases h
  · cases h

theorem mk_ok : TabOK P (mkTI P) := fun _ _ h => mkTI_ok h

end
end Go.Av

/-
  Rules by which a function's code is walked on abstract values. Conditions: none.
-/
namespace Go.Av

section
variable (P : Program) (Θ : Tab)

/-- The code runs, and Q holds at its end. -/
def W (N : Nat) (c : Code) (t : Fr) (h : Heap) (n : Nat) (Q : AEx → Fr → Heap → Nat → Prop) : Prop :=
  ∃ e t' h' n', Big P Θ (.code N c t h n e t' h' n') ∧ Q e t' h' n'

def WS (N : Nat) (body c : Code) (t : Fr) (h : Heap) (n : Nat) (Q : AEx → Fr → Heap → Nat → Prop) : Prop :=
  ∃ e t' h' n', Big P Θ (.scp N body c t h n e t' h' n') ∧ Q e t' h' n'

/-- A call at slot s, in one of three ways. -/
def VCall (s : Nat) (g : FuncId) (args : List AV) (h : Heap) (x : Nat) (k : Cls → AV → Heap → Nat → Prop) : Prop :=
  (∃ res h' x', Big P Θ (.fn g args h x res h' x') ∧ k .W res h' x') ∨
  (∃ live d d' as' res res' h1 x1, rfs true d (if live then h else h0) args = some as' ∧ Big P Θ (.fn g as' h0 0 res h1 x1) ∧ rf (!live) d' h1 res = some res' ∧ k (if live then .Q else .L) res' h x) ∨
  (∃ live d d' as' b len sz es es' h1 x1, rfs true d (if live then h else h0) args = some as' ∧ Big P Θ (.fn g as' h0 0 (.sl b 0 len sz) h1 x1) ∧ h1 b = some (.cells es) ∧ len = es.length ∧ rfe (!live) d' (upd h1 b none) es = some es' ∧
    k (if live then .Q else .L) (.sl s 0 len sz) (upd h s (some (.cells es'))) x)

def gdL (ops : List Oper) (t : Fr) (o : Oper) : Option Bool :=
  match o.guard with
  | none => some true
  | some (g, want) => match (ops[g]?).bind (·.dst) with
    | some d => match t d with
      | .bool b => some (b == want)
      | .tup [] => some false
      | _ => none
    | none => some false

/-- What an operation of a region asks. -/
def VOp (s n0 : Nat) (op : Op) (t : Fr) (h : Heap) (x : Nat) (k : Cls → AV → Heap → Nat → Prop) : Prop :=
  match op with
  | .call cl => match cl.callee with
    | .value f => match ev t f, evs t cl.args.toList with
      | some (.fn g caps), some as => VCall P Θ s g (as ++ caps) h x k
      | _, _ => False
    | _ => match aop Θ (.call cl) t h n0 s with
      | some (c, v, u) => k c v (upds h u) x
      | none => False
  | op => match aop Θ op t h n0 s with
    | some (c, v, u) => k c v (upds h u) x
    | none => False

/-- What a region asks. -/
def VL (N : Nat) (ops : List Oper) (n0 : Nat) : Nat → List Oper → Fr → Heap → Nat → List Cls → (List Cls → Fr → Heap → Nat → Prop) → Prop
  | _, [], t, h, x, cs, K => K cs t h x
  | i, o :: rest, t, h, x, cs, K => inN N o.dst = true ∧ match gdL ops t o with
    | some true => VOp P Θ (n0 + i) n0 o.op t h x fun c v h' x' => VL N ops n0 (i + 1) rest (put t o.dst v) h' x' (c :: cs) K
    | some false => VL N ops n0 (i + 1) rest (put t o.dst (.tup [])) h x (.P :: cs) K
    | none => False

/-! The same in pieces, each with its rest as data. -/
def VK (N : Nat) (ops : List Oper) (n0 i : Nat) (d : Option Nat) (rest : List Oper) (t : Fr) (h : Heap) (x : Nat) (cs : List Cls) (K : List Cls → Fr → Heap → Nat → Prop) (r : Res) : Prop :=
  match r with
  | some (c, v, u) => VL P Θ N ops n0 (i + 1) rest (put t d v) (upds h u) x (c :: cs) K
  | none => False

def VC (N : Nat) (ops : List Oper) (n0 i : Nat) (d : Option Nat) (rest : List Oper) (t : Fr) (h : Heap) (x : Nat) (cs : List Cls) (K : List Cls → Fr → Heap → Nat → Prop) (g : FuncId) (args : List AV) : Prop :=
  VCall P Θ (n0 + i) g args h x fun c v h' x' => VL P Θ N ops n0 (i + 1) rest (put t d v) h' x' (c :: cs) K

def VF (N : Nat) (ops : List Oper) (n0 i : Nat) (d : Option Nat) (rest : List Oper) (t : Fr) (h : Heap) (x : Nat) (cs : List Cls) (K : List Cls → Fr → Heap → Nat → Prop) (f : Option AV) (as : Option (List AV)) : Prop :=
  match f, as with
  | some (.fn g caps), some as => VC P Θ N ops n0 i d rest t h x cs K g (as ++ caps)
  | _, _ => False

def VO (N : Nat) (ops : List Oper) (n0 i : Nat) (op : Op) (d : Option Nat) (rest : List Oper) (t : Fr) (h : Heap) (x : Nat) (cs : List Cls) (K : List Cls → Fr → Heap → Nat → Prop) : Prop :=
  match op with
  | .call cl => match cl.callee with
    | .value f => VF P Θ N ops n0 i d rest t h x cs K (ev t f) (evs t cl.args.toList)
    | _ => VK P Θ N ops n0 i d rest t h x cs K (aop Θ (.call cl) t h n0 (n0 + i))
  | op => VK P Θ N ops n0 i d rest t h x cs K (aop Θ op t h n0 (n0 + i))

def VG (N : Nat) (ops : List Oper) (n0 i : Nat) (o : Oper) (rest : List Oper) (t : Fr) (h : Heap) (x : Nat) (cs : List Cls) (K : List Cls → Fr → Heap → Nat → Prop) (b : Option Bool) : Prop :=
  match b with
  | some true => VO P Θ N ops n0 i o.op o.dst rest t h x cs K
  | some false => VL P Θ N ops n0 (i + 1) rest (put t o.dst (.tup [])) h x (.P :: cs) K
  | none => False
end

section
variable {P : Program} {Θ : Tab} {N : Nat} {ops : List Oper} {n0 i : Nat} {o : Oper} {d : Option Nat} {rest : List Oper} {t : Fr} {h : Heap} {x : Nat} {cs : List Cls} {K : List Cls → Fr → Heap → Nat → Prop} {op : Op}

theorem VL_nil : VL P Θ N ops n0 i [] t h x cs K = K cs t h x := rfl

theorem VL_cons : VL P Θ N ops n0 i (o :: rest) t h x cs K = (inN N o.dst = true ∧ VG P Θ N ops n0 i o rest t h x cs K (gdL ops t o)) := by
  rw [VL]
  congr 1

theorem VG_true : VG P Θ N ops n0 i o rest t h x cs K (some true) = VO P Θ N ops n0 i o.op o.dst rest t h x cs K := rfl
theorem VG_false : VG P Θ N ops n0 i o rest t h x cs K (some false) = VL P Θ N ops n0 (i + 1) rest (put t o.dst (.tup [])) h x (.P :: cs) K := rfl
theorem VK_some {c : Cls} {v : AV} {u : Upd} : VK P Θ N ops n0 i d rest t h x cs K (some (c, v, u)) = VL P Θ N ops n0 (i + 1) rest (put t d v) (upds h u) x (c :: cs) K := rfl
theorem VF_some {g : FuncId} {caps as : List AV} : VF P Θ N ops n0 i d rest t h x cs K (some (.fn g caps)) (some as) = VC P Θ N ops n0 i d rest t h x cs K g (as ++ caps) := rfl
end

section
variable {P : Program} {Θ : Tab} {N : Nat} {t : Fr} {h : Heap} {n : Nat} {Q : AEx → Fr → Heap → Nat → Prop}

theorem VL_sound {ops : List Oper} {n0 : Nat} : ∀ (rest : List Oper) (i : Nat) (t : Fr) (h : Heap) (x : Nat) (cs : List Cls) (K : List Cls → Fr → Heap → Nat → Prop), ops.drop i = rest →
    VL P Θ N ops n0 i rest t h x cs K → ∃ cs' t' h' x', Big P Θ (.ops N ⟨ops⟩ n0 (List.range' i rest.length) ⟨t, h, x⟩ cs' ⟨t', h', x'⟩) ∧ K (cs'.reverse ++ cs) t' h' x'
  | [], i, t, h, x, cs, K, _, hv => ⟨[], t, h, x, .nil, hv⟩
  | o :: rest, i, t, h, x, cs, K, hd, hv => by
    have ho : ops[i]? = some o := by
      have := congrArg (fun l => l[0]?) hd; simpa using this
    have ho' : (⟨ops⟩ : Array Oper)[i]? = some o := by simpa using ho
    have hd' : ops.drop (i + 1) = rest := by rw [← List.drop_drop, hd]; rfl
    have hgd : gd ⟨ops⟩ t o = gdL ops t o := by
      unfold gd gdL
      cases o.guard with
      | none => rfl
      | some gw => obtain ⟨g, w⟩ := gw; simp; rfl
    unfold VL at hv
    obtain ⟨hn, hv⟩ := hv
    have go : ∀ (c : Cls) (v : AV) (h' : Heap) (x' : Nat), Big P Θ (.op N ⟨ops⟩ n0 i ⟨t, h, x⟩ c ⟨put t o.dst v, h', x'⟩) → VL P Θ N ops n0 (i + 1) rest (put t o.dst v) h' x' (c :: cs) K →
        ∃ cs' t' h' x', Big P Θ (.ops N ⟨ops⟩ n0 (List.range' i (o :: rest).length) ⟨t, h, x⟩ cs' ⟨t', h', x'⟩) ∧ K (cs'.reverse ++ cs) t' h' x' := by
      intro c v h' x' hb hv
      obtain ⟨cs', t2, h2, x2, b2, k2⟩ := VL_sound rest (i + 1) _ h' x' _ K hd' hv
      refine ⟨c :: cs', t2, h2, x2, ?_, by simpa using k2⟩
      rw [List.length_cons, List.range'_succ]
      exact .cons hb b2
    split at hv
    · rename_i hg
      rw [← hgd] at hg
      have plain : (match aop Θ o.op t h n0 (n0 + i) with
          | some (c, v, u) => VL P Θ N ops n0 (i + 1) rest (put t o.dst v) (upds h u) x (c :: cs) K
          | none => False) → ∃ cs' t' h' x', Big P Θ (.ops N ⟨ops⟩ n0 (List.range' i (o :: rest).length) ⟨t, h, x⟩ cs' ⟨t', h', x'⟩) ∧ K (cs'.reverse ++ cs) t' h' x' := by
        intro hp
        split at hp
        · rename_i c v u ha
          exact go c v _ x (.plain ho' hg hn ha) hp
        · exact hp.elim
      unfold VOp at hv
      split at hv
      · rename_i cl hop
        split at hv
        · rename_i f hc
          split at hv
          · rename_i g caps as hf ha
            rcases hv with ⟨res, h', x', hb, hk⟩ | ⟨live, d, d', as', res, res', h1, x1, hr, hb, hr', hk⟩ | ⟨live, d, d', as', b, len, sz, es, es', h1, x1, hr, hb, hh, hl, hr', hk⟩
            · exact go _ _ _ _ (.callH ho' hg hn hop hc hf ha hb) hk
            · exact go _ _ _ _ (.callP live ho' hg hn hop hc hf ha hr hb hr') hk
            · exact go _ _ _ _ (.callT live ho' hg hn hop hc hf ha hr hb hh hl hr') hk
          · exact hv.elim
        · refine plain ?_
          rw [hop]; exact hv
      · exact plain hv
    · rename_i hg
      rw [← hgd] at hg
      exact go _ _ _ _ (.skip ho' hg hn) hv
    · exact hv.elim

/-- A region in the text's order. -/
theorem W.region {id : Nat} {ops : List Oper} {k : Nat} (hk : ops.length = k) (hv : VL P Θ N ops n 0 ops t h (n + k) [] fun _ t h n => Q .normal t h n) : W P Θ N (.region id ⟨ops⟩ false) t h n Q := by
  subst hk
  obtain ⟨cs, t', h', x', hb, hk⟩ := VL_sound ops 0 t h _ [] _ (by simp) hv
  refine ⟨.normal, t', h', x', .region (cs := cs) ?_ (fun h => by cases h), hk⟩
  rw [List.range_eq_range']
  exact hb

/-- A region in any order. -/
theorem W.draw {id : Nat} {ops : List Oper} {k : Nat} (hk : ops.length = k) (hv : VL P Θ N ops n 0 ops t h (n + k) [] fun cs t h n => drawOK ⟨ops⟩ cs.reverse = true ∧ Q .normal t h n) : W P Θ N (.region id ⟨ops⟩ true) t h n Q := by
  subst hk
  obtain ⟨cs, t', h', x', hb, hd, hk⟩ := VL_sound ops 0 t h _ [] _ (by simp) hv
  refine ⟨.normal, t', h', x', .region (cs := cs) ?_ (fun _ => by simpa using hd), hk⟩
  rw [List.range_eq_range']
  exact hb

theorem W.mono {c : Code} {Q' : AEx → Fr → Heap → Nat → Prop} (hw : W P Θ N c t h n Q) (hq : ∀ e t h n, Q e t h n → Q' e t h n) : W P Θ N c t h n Q' := by
  obtain ⟨e, t', h', n', hb, hk⟩ := hw
  exact ⟨e, t', h', n', hb, hq _ _ _ _ hk⟩

/-- First a, then b. -/
def andThen (K : Fr → Heap → Nat → Prop) (Q : AEx → Fr → Heap → Nat → Prop) : AEx → Fr → Heap → Nat → Prop
  | .normal, t, h, n => K t h n
  | e, t, h, n => Q e t h n

theorem W.seq {a b : Code} (hw : W P Θ N a t h n (andThen (fun t h n => W P Θ N b t h n Q) Q)) : W P Θ N (.seq a b) t h n Q := by
  obtain ⟨e, t', h', n', hb, hk⟩ := hw
  cases e with
  | normal =>
    obtain ⟨e2, t2, h2, n2, b2, k2⟩ := hk
    exact ⟨e2, t2, h2, n2, .seq hb b2, k2⟩
  | exit i => exact ⟨_, _, _, _, .seqx (by simp) hb, hk⟩
  | goto i => exact ⟨_, _, _, _, .seqx (by simp) hb, hk⟩
  | ret => exact ⟨_, _, _, _, .seqx (by simp) hb, hk⟩

theorem W.seqk {a b : Code} (hw : ∀ K : Fr → Heap → Nat → Prop, (∀ t h n, W P Θ N b t h n Q → K t h n) → W P Θ N a t h n (andThen K Q)) : W P Θ N (.seq a b) t h n Q :=
  W.seq (hw _ fun _ _ _ h => h)

theorem W.rseq {id : Nat} {ops : List Oper} {k : Nat} {b : Code} (hk : ops.length = k) (hv : ∀ K : Fr → Heap → Nat → Prop, (∀ t h n, W P Θ N b t h n Q → K t h n) → VL P Θ N ops n 0 ops t h (n + k) [] fun _ t h n => K t h n) : W P Θ N (.seq (.region id ⟨ops⟩ false) b) t h n Q :=
  W.seq (W.region hk (hv _ fun _ _ _ h => h))

theorem W.dseq {id : Nat} {ops : List Oper} {k : Nat} {b : Code} (hk : ops.length = k) (hv : ∀ K : List Cls → Fr → Heap → Nat → Prop, (∀ cs t h n, drawOK ⟨ops⟩ cs.reverse = true → W P Θ N b t h n Q → K cs t h n) → VL P Θ N ops n 0 ops t h (n + k) [] K) : W P Θ N (.seq (.region id ⟨ops⟩ true) b) t h n Q :=
  W.seq (W.draw hk (hv _ fun _ _ _ _ h1 h2 => ⟨h1, h2⟩))

theorem W.cond {c : Operand} {a b : Code} {r : Bool} (hc : ev t c = some (.bool r)) (h1 : r = true → W P Θ N a t h n Q) (h2 : r = false → W P Θ N b t h n Q) : W P Θ N (.cond c a b) t h n Q := by
  cases r with
  | true =>
    obtain ⟨e, t', h', n', hb, hk⟩ := h1 rfl
    exact ⟨_, _, _, _, .condT hc hb, hk⟩
  | false =>
    obtain ⟨e, t', h', n', hb, hk⟩ := h2 rfl
    exact ⟨_, _, _, _, .condF hc hb, hk⟩

theorem W.condT {c : Operand} {a b : Code} (hc : ev t c = some (.bool true)) (h1 : W P Θ N a t h n Q) : W P Θ N (.cond c a b) t h n Q := W.cond hc (fun _ => h1) (fun h => by cases h)
theorem W.condF {c : Operand} {a b : Code} (hc : ev t c = some (.bool false)) (h1 : W P Θ N b t h n Q) : W P Θ N (.cond c a b) t h n Q := W.cond hc (fun h => by cases h) (fun _ => h1)

theorem W.skip (hk : Q .normal t h n) : W P Θ N .skip t h n Q := ⟨_, _, _, _, .cskip, hk⟩
theorem W.label {l : Nat} (hk : Q .normal t h n) : W P Θ N (.label l) t h n Q := ⟨_, _, _, _, .label, hk⟩
theorem W.exit {i : Nat} (hk : Q (.exit i) t h n) : W P Θ N (.exit i) t h n Q := ⟨_, _, _, _, .exit, hk⟩
theorem W.goto {l : Nat} (hk : Q (.goto l) t h n) : W P Θ N (.goto l) t h n Q := ⟨_, _, _, _, .goto, hk⟩
theorem W.ret (hk : Q .ret t h n) : W P Θ N .ret t h n Q := ⟨_, _, _, _, .ret, hk⟩

def inBlock (id : Nat) (Q : AEx → Fr → Heap → Nat → Prop) : AEx → Fr → Heap → Nat → Prop
  | .exit i, t, h, n => if i = id then Q .normal t h n else Q (.exit i) t h n
  | e, t, h, n => Q e t h n

theorem W.block {id : Nat} {c : Code} (hw : W P Θ N c t h n (inBlock id Q)) : W P Θ N (.block id c) t h n Q := by
  obtain ⟨e, t', h', n', hb, hk⟩ := hw
  cases e with
  | normal => exact ⟨_, _, _, _, .block hb, hk⟩
  | exit i =>
    simp only [inBlock] at hk
    split at hk
    · rename_i hi; subst hi; exact ⟨_, _, _, _, .blockX hb, hk⟩
    · rename_i hi; exact ⟨_, _, _, _, .blockE (by simp) (by simpa using hi) hb, hk⟩
  | goto i => exact ⟨_, _, _, _, .blockE (by simp) (by simp) hb, hk⟩
  | ret => exact ⟨_, _, _, _, .blockE (by simp) (by simp) hb, hk⟩

theorem W.loop {c : Code} (hw : W P Θ N c t h n (andThen (fun t h n => W P Θ N (.loop c) t h n Q) Q)) : W P Θ N (.loop c) t h n Q := by
  obtain ⟨e, t', h', n', hb, hk⟩ := hw
  cases e with
  | normal =>
    obtain ⟨e2, t2, h2, n2, b2, k2⟩ := hk
    exact ⟨e2, t2, h2, n2, .loop hb b2, k2⟩
  | exit i => exact ⟨_, _, _, _, .loopE (by simp) hb, hk⟩
  | goto i => exact ⟨_, _, _, _, .loopE (by simp) hb, hk⟩
  | ret => exact ⟨_, _, _, _, .loopE (by simp) hb, hk⟩

/-- A loop, by what holds before each round and a number that goes down. -/
theorem W.while {c : Code} (I : Nat → Fr → Heap → Nat → Prop) (k : Nat) (hI : I k t h n) (hs : ∀ k t h n, I k t h n → W P Θ N c t h n (andThen (fun t' h' n' => ∃ k', k' < k ∧ I k' t' h' n') Q)) : W P Θ N (.loop c) t h n Q := by
  induction k using Nat.strongRecOn generalizing t h n with
  | _ k ih =>
    refine W.loop (W.mono (hs k t h n hI) fun e t' h' n' hq => ?_)
    cases e with
    | normal => obtain ⟨k', hk, hI'⟩ := hq; exact ih k' hk hI'
    | exit i => exact hq
    | goto l => exact hq
    | ret => exact hq

theorem W.scope {c : Code} (hw : WS P Θ N c c t h n Q) : W P Θ N (.scope c) t h n Q := by
  obtain ⟨e, t', h', n', hb, hk⟩ := hw
  exact ⟨_, _, _, _, .scope hb, hk⟩

def jump (P : Program) (Θ : Tab) (N : Nat) (body : Code) (Q : AEx → Fr → Heap → Nat → Prop) : AEx → Fr → Heap → Nat → Prop
  | .goto l, t, h, n => ∃ rest, findLabel body l = some rest ∧ WS P Θ N body rest t h n Q
  | e, t, h, n => Q e t h n

theorem WS.code {body c : Code} (hw : W P Θ N c t h n (jump P Θ N body Q)) : WS P Θ N body c t h n Q := by
  obtain ⟨e, t', h', n', hb, hk⟩ := hw
  cases e with
  | normal => exact ⟨_, _, _, _, .scpD (by simp) hb, hk⟩
  | exit i => exact ⟨_, _, _, _, .scpD (by simp) hb, hk⟩
  | goto l =>
    obtain ⟨rest, hf, e2, t2, h2, n2, b2, k2⟩ := hk
    exact ⟨_, _, _, _, .scpG hb hf b2, k2⟩
  | ret => exact ⟨_, _, _, _, .scpD (by simp) hb, hk⟩

/-- A function, in the caller's heap. -/
def FH (P : Program) (Θ : Tab) (f : FuncId) (args : List AV) (h : Heap) (n : Nat) (R : AV → Heap → Nat → Prop) : Prop :=
  ∃ res h' n', Big P Θ (.fn f args h n res h' n') ∧ R res h' n'

/-- At a function's end. -/
def atEnd (Θ : Tab) (rs : Array ResultVar) (R : AV → Heap → Nat → Prop) : AEx → Fr → Heap → Nat → Prop
  | .normal, t, h, n | .ret, t, h, n => match ares Θ rs t h with
    | some r => R r h n
    | none => False
  | _, _, _, _ => False

theorem FH.of {f : FuncId} {fn : Func} {c : Code} {rs : Array ResultVar} {args : List AV} {R : AV → Heap → Nat → Prop} (hf : P.funcs[f]? = some fn) (hb : fn.body = some c) (hN : fn.ntmps = N) (hl : args.length ≤ N) (hr : fn.results = rs) (hn : fn.name ≠ "runtime.NumGoroutine")
    (hw : W P Θ N c (fr0 args) h n (atEnd Θ rs R)) : FH P Θ f args h n R := by
  subst hN; subst hr
  obtain ⟨e, t', h', n', hbig, hk⟩ := hw
  have fin : (e = .normal ∨ e = .ret) → (match ares Θ fn.results t' h' with
    | some r => R r h' n'
    | none => False) → FH P Θ f args h n R := by
    intro he hk
    split at hk
    · rename_i r hr
      exact ⟨r, h', n', .fn hf hb hl hn hbig he hr, hk⟩
    · exact hk.elim
  cases e with
  | normal => exact fin (.inl rfl) hk
  | exit i => exact hk.elim
  | goto l => exact hk.elim
  | ret => exact fin (.inr rfl) hk

/-- A function that is called with frozen values, and gives a value that is all its own. -/
def PF (P : Program) (Θ : Tab) (f : FuncId) (args : List AV) (res : AV) : Prop :=
  FH P Θ f args h0 0 fun r h1 _ => ∃ d, ∀ fr, rf fr d h1 r = some res

/-- A function that is called with frozen values, and gives a slice that is all its own. -/
def PT (P : Program) (Θ : Tab) (f : FuncId) (args : List AV) (sz : Nat) (es : List (List AV)) : Prop :=
  FH P Θ f args h0 0 fun r h1 _ => ∃ b, r = .sl b 0 es.length sz ∧ ∃ es0, h1 b = some (.cells es0) ∧ es0.length = es.length ∧ ∃ d, ∀ fr, rfe fr d (upd h1 b none) es0 = some es

variable {s : Nat} {g : FuncId} {args as' : List AV} {x : Nat} {k : Cls → AV → Heap → Nat → Prop}

theorem VCall.heap {R : AV → Heap → Nat → Prop} (hf : FH P Θ g args h x R) (hk : ∀ r h' x', R r h' x' → k .W r h' x') : VCall P Θ s g args h x k := by
  obtain ⟨r, h', n', hb, hR⟩ := hf
  exact .inl ⟨r, h', n', hb, hk _ _ _ hR⟩

/-- Of frozen values. -/
theorem VCall.frz {res : AV} (d : Nat) (hf : PF P Θ g args res) (hr : rfs true d h0 args = some args) (hk : k .L res h x) : VCall P Θ s g args h x k := by
  obtain ⟨r, h', n', hb, d', hR⟩ := hf
  exact .inr (.inl ⟨false, d, d', _, r, res, h', n', hr, hb, hR _, hk⟩)

/-- Of values of which some lead to live blocks. -/
theorem VCall.frzq {res : AV} (d : Nat) (hr : rfs true d h args = some as') (hf : PF P Θ g as' res) (hk : k .Q res h x) : VCall P Θ s g args h x k := by
  obtain ⟨r, h', n', hb, d', hR⟩ := hf
  exact .inr (.inl ⟨true, d, d', _, r, res, h', n', hr, hb, hR _, hk⟩)

theorem VCall.own {sz : Nat} {es : List (List AV)} (d : Nat) (hf : PT P Θ g args sz es) (hr : rfs true d h0 args = some args) (hk : k .L (.sl s 0 es.length sz) (upd h s (some (.cells es))) x) : VCall P Θ s g args h x k := by
  obtain ⟨r, h', n', hb, b, rfl, es0, hh, hl, d', hR⟩ := hf
  exact .inr (.inr ⟨false, d, d', _, b, _, sz, es0, es, h', n', hr, hb, hh, hl.symm, hR _, hk⟩)

theorem put_app {t : Fr} {d x : Nat} {v : AV} : put t (some d) v x = if x = d then v else t x := rfl
theorem put_none {t : Fr} {v : AV} : put t none v = t := rfl
theorem fr0_zero {a : AV} {l : List AV} : fr0 (a :: l) 0 = a := rfl
theorem fr0_succ {a : AV} {l : List AV} {x : Nat} : fr0 (a :: l) (x + 1) = fr0 l x := rfl
theorem fr0_nil {x : Nat} : fr0 [] x = .any := rfl

theorem wrap64 {x : Int} (h1 : -9223372036854775808 ≤ x) (h2 : x < 9223372036854775808) : IntKind.wrap .i64 x = x := by
  unfold IntKind.wrap
  simp only [IntKind.bits, IntKind.signed]
  simp
  omega
end
end Go.Av

/-
  What the walks' rewriting uses. Conditions: none.
-/
namespace Go.Av

theorem upd_app {h : Heap} {b x : Nat} {o : Option AO} : upd h b o x = if x = b then o else h x := rfl

theorem arr_isEmpty {α : Type} : (#[] : Array α).isEmpty = true := rfl

theorem cast_lit {n : Nat} : ((no_index (OfNat.ofNat n) : Nat) : Int) = OfNat.ofNat n := rfl

theorem nlt1 {n k : Nat} : (n + k < n) = False := by simp
theorem nlt2 {n k : Nat} : (n < n + k) = (0 < k) := by simp

theorem int_beq {a b : Int} : (a == b) = decide (a = b) := by
  by_cases h : a = b <;> simp [h]

theorem int_bne {a b : Int} : (a != b) = !decide (a = b) := by
  by_cases h : a = b <;> simp [h]

theorem upds_nil {h : Heap} : upds h [] = h := rfl

attribute [go_sem] int_beq int_bne nlt1 nlt2 Nat.add_lt_add_iff_left eq_self Int.reduceEq cast_lit and_true upds_nil arr_isEmpty VG_true VG_false VK_some VF_some VL_nil VL_cons VO gdL aop ev evs evp cv cv1 cvs P1 Option.map inN upds put_app put_none fr0_zero fr0_succ fr0_nil reduceIte Nat.reduceEqDiff Nat.reduceLT decide_true decide_false true_and Nat.reduceAdd Nat.zero_add Nat.add_zero
  aBuiltin aLen lenT aBin aNil orA aUn aConv aLoad aStore aAlloc aBox aBuild aBuildSlice aMake aField aFieldV aIndexAddr aIndex aSlice aAppend rdCells ofCells rdCls below cellsOf aEq eqs eq1 over fill fillS elems bd minInt Option.bind
  List.append_nil List.nil_append List.length_map List.getElem?_map and_self if_true Bool.false_eq_true if_false List.getElem?_toArray List.getElem?_cons_zero List.getElem?_cons_succ Int.natCast_nonneg Int.toNat_natCast
  List.length_cons List.length_nil List.drop_zero List.take_succ_cons List.take_zero Nat.le_refl List.drop_succ_cons Bool.not_true Bool.not_false andThen inBlock atEnd ares aresL ares1 Bool.and_true Bool.true_and upd_app List.all_cons List.all_nil scal Bool.and_self beq_true beq_false List.isEmpty_nil List.isEmpty_cons List.set_cons_zero List.set_cons_succ List.cons_append List.take_nil List.drop_nil List.append_assoc List.replicate_zero List.replicate_succ ge_iff_le gt_iff_lt Bool.true_eq_false Bool.and_false Bool.false_and Nat.lt_irrefl Nat.add_eq_left Nat.left_eq_add Nat.add_left_cancel_iff Nat.add_right_cancel_iff Nat.succ_ne_zero Nat.reduceSub Nat.reduceMul Nat.reduceLeDiff Nat.add_assoc Int.reduceLE Int.reduceLT Int.reduceToNat Int.reduceNeg

end Go.Av
