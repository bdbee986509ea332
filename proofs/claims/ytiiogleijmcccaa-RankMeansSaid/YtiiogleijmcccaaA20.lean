/-
  The types' table, reckoned from the program. Conditions: none.
-/
import Derived.Test.YtiiogleijmcccaaA19
import Derived.Laws.StructEq
import Derived.DeepKeys
namespace Go.Av

def ekOf : Option TypeDesc → Option EK
  | some .bool => some .bool
  | some (.int k) => some (.int k)
  | some .string => some .str
  | _ => none

/-- The kinds of a struct's cells, if each field is one cell. -/
def flatEq (P : Program) : Nat → List Field → Option (List EK)
  | _, [] => some []
  | j, f :: fs => if f.name ≠ "_" ∧ f.offset = j then match ekOf (P.underlying f.type), flatEq P (j + 1) fs with
      | some k, some ks => some (k :: ks)
      | _, _ => none
    else none

def mkEq (P : Program) (t : TypeId) : Option (List EK) :=
  match P.underlying t with
  | some (.struct fs) => if P.eqGuardType P.depth t = false ∧ P.stoodInHeld t = false then flatEq P 0 fs.toList else none
  | _ => none

def mkField (P : Program) (f : Field) : Option (Nat × Nat × Bool) :=
  match P.info? f.type, P.underlying f.type with
  | some i, some d => some (f.offset, i.size, d.isRow)
  | _, _ => none

def mkKind (P : Program) : TypeDesc → TK
  | .bool => .bool
  | .int k => .int k
  | .string => .str
  | .struct fs => match fs.toList.mapM (mkField P) with
    | some l => .struct l
    | none => .plain
  | .array n e => match P.info? e, P.underlying e with
    | some i, some d => .array n i.size d.isRow
    | _, _ => .plain
  | .slice e => match P.info? e with
    | some i => match i.zero with
      | some z => match cvs z.cells.toList with
        | some zs => .slice i.size i.bytes zs
        | none => .plain
      | none => .plain
    | none => .plain
  | _ => .plain

def mkTI (P : Program) (t : TypeId) : Option TI :=
  match P.info? t, P.underlying t with
  | some i, some d => match i.zero with
    | some z => match cvs z.cells.toList with
      | some zs => some ⟨i.size, d.isRow, mkKind P d, zs, mkEq P t⟩
      | none => none
    | none => none
  | _, _ => none

section
variable {P : Program}

theorem mapM_back {α β : Type} {f : α → Option β} : ∀ {l : List α} {r : List β}, l.mapM f = some r → r.length = l.length ∧ ∀ (j : Nat) (b : β), r[j]? = some b → ∃ a, l[j]? = some a ∧ f a = some b
  | [], r, h => by simp at h; subst h; simp
  | a :: l, r, h => by
    rw [List.mapM_cons] at h
    simp only [bind, Option.bind_eq_some_iff, pure, Option.some.injEq] at h
    obtain ⟨b, hb, bs, hbs, rfl⟩ := h
    obtain ⟨h1, h2⟩ := mapM_back hbs
    refine ⟨by simp [h1], fun j c hj => ?_⟩
    cases j with
    | zero => simp at hj; subst hj; exact ⟨a, by simp, hb⟩
    | succ j => simp at hj; simpa using h2 j c hj

theorem kind_ok (d : TypeDesc) : KindOK P d (mkKind P d) := by
  unfold mkKind
  split
  · rfl
  · rfl
  · rfl
  · rename_i fs
    split
    · rename_i l hl
      obtain ⟨h1, h2⟩ := mapM_back hl
      refine ⟨fs, rfl, by simpa using h1, fun j o s g hj => ?_⟩
      obtain ⟨f, hf, he⟩ := h2 j _ hj
      unfold mkField at he
      split at he
      · rename_i i d' hi hd
        simp only [Option.some.injEq, Prod.mk.injEq] at he
        obtain ⟨rfl, rfl, rfl⟩ := he
        exact ⟨f, i, d', by simpa using hf, rfl, hi, rfl, hd, rfl⟩
      · cases he
    · trivial
  · rename_i n e
    split
    · rename_i i d' hi hd
      exact ⟨e, i, d', rfl, hi, rfl, hd, rfl⟩
    · trivial
  · rename_i e
    split
    · rename_i i hi
      split
      · rename_i z hz
        split
        · rename_i zs hzs
          exact ⟨e, i, z, rfl, hi, rfl, rfl, hz, fun w S m => cvs_ok hzs⟩
        · trivial
      · trivial
    · trivial
  · trivial

theorem equal_cell {w : World} {S : Nat → Prop} {m : Pm} {e : TypeId} {k : EK} (he : ekOf (P.underlying e) = some k) {a b : AV} {x y : Value} {r : Bool} (d : Nat) (ha : VR w S m a x) (hb : VR w S m b y) (h : eq1 k a b = some r) :
    (Op.equalIn (d + 1) e x y).run P w = .ok r w := by
  unfold ekOf at he
  unfold eq1 at h
  split at he <;> simp only [Option.some.injEq, reduceCtorEq] at he <;> subst he
  · rename_i hu
    split at h <;> simp only [Option.some.injEq, reduceCtorEq] at * <;> try contradiction
    cases ha; cases hb; subst h
    exact run_equalIn_bool' w d e _ _ hu
  · rename_i k hu
    split at h <;> simp only [EK.int.injEq, reduceCtorEq] at * <;> try contradiction
    split at h
    · rename_i hk
      cases ha; cases hb; cases h
      obtain ⟨rfl, rfl⟩ := hk
      rename_i e1; subst e1
      exact run_equalIn_int w d e _ _ _ _ hu
    · cases h
  · rename_i hu
    split at h <;> simp only [Option.some.injEq, reduceCtorEq] at * <;> try contradiction
    cases ha; cases hb; subst h
    rw [run_equalIn_string w d e _ _ hu, beq_toListBytes]

theorem plain_of {e : TypeId} {k : EK} (he : ekOf (P.underlying e) = some k) : P.plainKey e = true := by
  unfold ekOf at he
  unfold Program.plainKey
  split at he <;> simp_all

theorem fields_ok {w : World} {S : Nat → Prop} {m : Pm} (d : Nat) {xs ys : List AV} {us vs : List Value} (hx : LR w S m xs us) (hy : LR w S m ys vs) : ∀ (fs : List Field) (j : Nat) (ks : List EK) (r : Bool),
    flatEq P j fs = some ks → eqs ks (xs.drop j) (ys.drop j) = some r → (Op.eqFields (d + 1) ⟨us⟩ ⟨vs⟩ fs).run P w = .ok r w
  | [], j, ks, r, hf, h => by
    simp only [flatEq, Option.some.injEq] at hf; subst hf
    unfold eqs at h
    split at h <;> simp_all [Op.eqFields]
  | f :: fs, j, ks, r, hf, h => by
    unfold flatEq at hf
    split at hf
    · rename_i hn
      split at hf
      · rename_i k ks' hk hks
        simp only [Option.some.injEq] at hf; subst hf
        cases hxd : xs.drop j with
        | nil => rw [hxd] at h; simp [eqs] at h
        | cons x xs' =>
          cases hyd : ys.drop j with
          | nil => rw [hxd, hyd] at h; simp [eqs] at h
          | cons y ys' =>
            rw [hxd, hyd] at h
            simp only [eqs] at h
            split at h
            · rename_i a b ha hb
              simp only [Option.some.injEq] at h; subst h
              have hxj : xs[j]? = some x := by
                have := congrArg (fun l => l[0]?) hxd; simpa using this
              have hyj : ys[j]? = some y := by
                have := congrArg (fun l => l[0]?) hyd; simpa using this
              have hx' : xs.drop (j + 1) = xs' := by rw [← List.drop_drop, hxd]; rfl
              have hy' : ys.drop (j + 1) = ys' := by rw [← List.drop_drop, hyd]; rfl
              obtain ⟨u, hu, hru⟩ := hx.get hxj
              obtain ⟨v, hv, hrv⟩ := hy.get hyj
              have ih := fields_ok d hx hy fs (j + 1) ks' b hks (by rw [hx', hy']; exact hb)
              have p1 := run_part_plain (P := P) w (plain_of hk) (xs := ⟨us⟩) (off := f.offset) (by rw [hn.2]; simpa using hu)
              have p2 := run_part_plain (P := P) w (plain_of hk) (xs := ⟨vs⟩) (off := f.offset) (by rw [hn.2]; simpa using hv)
              have p3 := equal_cell hk d hru hrv ha
              simp only [Op.eqFields, hn.1, ne_eq, not_false_eq_true, if_true, Sem.run_bind, p1, p2, p3, Result.andThen_ok]
              cases a
              · simp
              · simpa using ih
            · cases h
      · cases hf
    · cases hf

theorem mkTI_ok {t : TypeId} {ti : TI} (h : mkTI P t = some ti) : TyOK P t ti := by
  unfold mkTI at h
  split at h
  · rename_i i d hi hd
    split at h
    · rename_i z hz
      split at h
      · rename_i zs hzs
        simp only [Option.some.injEq] at h; subst h
        refine ⟨⟨i, z, hi, rfl, hz, fun w S m => cvs_ok hzs⟩, ⟨d, hd, rfl, kind_ok d⟩, fun ks hks xs ys us vs w S m r hx hy hr => ?_⟩
        simp only [mkEq] at hks
        split at hks
        · rename_i fs hu
          split at hks
          · rename_i hg
            refine ⟨hg.1, ?_⟩
            have hfs : P.fieldsOf t = fs := by simp [Program.fieldsOf, hu]
            have := run_equalIn_struct w 9999 t ⟨us⟩ ⟨vs⟩ (by rw [hfs]; exact hu) hg.2
            rw [hfs] at this
            have h2 := fields_ok 9998 hx hy fs.toList 0 ks r hks (by simpa using hr)
            exact this.trans h2
          · cases hks
        · cases hks
      · cases h
    · cases h
  · cases h

theorem mk_ok : TabOK P (mkTI P) := fun _ _ h => mkTI_ok h

end
end Go.Av
