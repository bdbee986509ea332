/-
  The types' table; lists of cells. Conditions: none.
-/
import Derived.Test.YtiiogleijmcccaaA3
import Derived.Deep.MidRow
import Derived.Deep.AppendSrc
namespace Go.Av

/-- Cells and values, one by one. -/
def LR (w : World) (S : Nat → Prop) (m : Pm) (cs : List AV) (vs : List Value) : Prop :=
  vs.length = cs.length ∧ ∀ (i : Nat) (c : AV) (v : Value), cs[i]? = some c → vs[i]? = some v → VR w S m c v

/-- Cells that stand for a value's in every world. -/
def ZC (cs : List AV) (z : Value) : Prop := ∀ w S m, LR w S m cs z.cells.toList

section
variable {w : World} {S : Nat → Prop} {m : Pm}

theorem LR.get {cs : List AV} {vs : List Value} (h : LR w S m cs vs) {i : Nat} {c : AV} (hc : cs[i]? = some c) : ∃ v, vs[i]? = some v ∧ VR w S m c v := by
  have hi : i < cs.length := (List.getElem?_eq_some_iff.1 hc).1
  have hi' : i < vs.length := by rw [h.1]; exact hi
  exact ⟨vs[i], by simp [hi'], h.2 i c _ hc (by simp [hi'])⟩

theorem LR.nil : LR w S m [] [] := ⟨rfl, fun i c v h => by simp at h⟩

theorem LR.cons {c : AV} {v : Value} {cs : List AV} {vs : List Value} (hv : VR w S m c v) (h : LR w S m cs vs) : LR w S m (c :: cs) (v :: vs) :=
  ⟨by simp [h.1], fun i a u ha hu => by
    cases i with
    | zero => simp at ha hu; subst ha; subst hu; exact hv
    | succ i => simp at ha hu; exact h.2 i a u ha hu⟩

theorem LR.append {a b : List AV} {x y : List Value} (h : LR w S m a x) (k : LR w S m b y) : LR w S m (a ++ b) (x ++ y) := by
  refine ⟨by simp [h.1, k.1], fun i c v hc hv => ?_⟩
  by_cases hi : i < a.length
  · rw [List.getElem?_append_left hi] at hc
    rw [List.getElem?_append_left (by rw [h.1]; exact hi)] at hv
    exact h.2 i c v hc hv
  · rw [List.getElem?_append_right (by omega)] at hc
    rw [List.getElem?_append_right (by rw [h.1]; omega), h.1] at hv
    exact k.2 _ c v hc hv

theorem LR.take {a : List AV} {x : List Value} (h : LR w S m a x) (n : Nat) : LR w S m (a.take n) (x.take n) := by
  refine ⟨by simp [h.1], fun i c v hc hv => ?_⟩
  rw [List.getElem?_take] at hc hv
  split at hc
  · rename_i hi; rw [if_pos hi] at hv; exact h.2 i c v hc hv
  · cases hc

theorem LR.drop {a : List AV} {x : List Value} (h : LR w S m a x) (n : Nat) : LR w S m (a.drop n) (x.drop n) := by
  refine ⟨by simp [h.1], fun i c v hc hv => ?_⟩
  rw [List.getElem?_drop] at hc hv
  exact h.2 _ c v hc hv

theorem LR.mono {w' : World} {S' : Nat → Prop} {m' : Pm} {a : List AV} {x : List Value} (h : LR w S m a x)
    (he : Ext S w w') (hs : ∀ i, S i → S' i) (hm : ∀ b p, m b = some p → m' b = some p) : LR w' S' m' a x :=
  ⟨h.1, fun i c v hc hv => (h.2 i c v hc hv).mono he hs hm⟩

/-- A value's cells. -/
theorem VR.cells {a : AV} {v : Value} {cs : List AV} (h : VR w S m a v) (hc : cellsOf a = some cs) : LR w S m cs v.cells.toList := by
  cases h <;> simp only [cellsOf, Option.some.injEq, reduceCtorEq] at hc <;> subst hc <;> simp only [Value.cells]
  case agg vs hl hr => exact ⟨hl, hr⟩
  all_goals
    refine LR.cons ?_ LR.nil
  case bool => exact .bool _
  case int => exact .int _ _
  case str => exact .str _
  case nilp => exact .nilp
  case nilf => exact .nilf
  case nili => exact .nili
  case nils => exact .nils _
  case nilm => exact .nilm
  case ptr p h => exact .ptr _ _ _ p h
  case rp cells off blk o us hS hc hr => exact .rp _ _ _ _ us hS hc hr
  case sl => constructor <;> assumption
  case ron => exact .ron _ _
  case ro es blk o sz cap us hS hz hcap hc hr => exact .ro _ _ _ _ _ us hS hz hcap hc hr
  case fn f caps vs hl hr => exact .fn _ _ _ hl hr
  case mp p h => exact .mp _ _ h

theorem VR.ofCells {cs : List AV} {vs : List Value} {g : Bool} {a : AV} (h : LR w S m cs vs) (ha : ofCells g cs = some a) :
    (g = true → VR w S m a (.agg ⟨vs⟩)) ∧ (g = false → ∃ v, vs = [v] ∧ VR w S m a v) := by
  unfold Av.ofCells at ha
  cases g with
  | true => simp at ha; subst ha; exact ⟨fun _ => .agg _ _ h.1 h.2, (fun h => by cases h)⟩
  | false =>
    simp only [Bool.false_eq_true, if_false] at ha
    refine ⟨(fun h => by cases h), fun _ => ?_⟩
    split at ha
    · rename_i c
      simp at ha; subst ha
      obtain ⟨hl, hr⟩ := h
      match vs, hl with
      | [v], _ => exact ⟨v, rfl, hr 0 c v rfl rfl⟩
    · cases ha

/-- One cell, no more. -/
theorem VR.scal1 {a : AV} {v : Value} (h : VR w S m a v) (hs : scal a = true) : v.oneCell' = true := by
  cases h <;> first | rfl | (simp [scal] at hs)
end

/-- What the table says of a type is so. -/
def KindOK (P : Program) (d : TypeDesc) : TK → Prop
  | .plain => True
  | .bool => d = .bool
  | .int k => d = .int k
  | .str => d = .string
  | .struct fs => ∃ fields : Array Field, d = .struct fields ∧ fs.length = fields.size ∧ ∀ (j o s : Nat) (g : Bool), fs[j]? = some (o, s, g) →
      ∃ (f : Field) (i : TypeInfo) (d' : TypeDesc), fields[j]? = some f ∧ f.offset = o ∧ P.info? f.type = some i ∧ i.size = s ∧ P.underlying f.type = some d' ∧ d'.isRow = g
  | .array n esz g => ∃ (e : TypeId) (i : TypeInfo) (d' : TypeDesc), d = .array n e ∧ P.info? e = some i ∧ i.size = esz ∧ P.underlying e = some d' ∧ d'.isRow = g
  | .slice esz eb ez => ∃ (e : TypeId) (i : TypeInfo) (z : Value), d = .slice e ∧ P.info? e = some i ∧ i.size = esz ∧ i.bytes = eb ∧ i.zero = some z ∧ ZC ez z
  | .map keq vz => ∃ (k e : TypeId) (i : TypeInfo) (z : Value), d = .map k e ∧ P.info? e = some i ∧ i.zero = some z ∧ (∀ w S m, VR w S m vz z) ∧
      (∀ (x : Value) (w : World) (S : Nat → Prop) (m : Pm) (a : AV), VR w S m a x → keyOK keq a = true → ∀ b, (Instr.checkKey b 10000 k x).run P w = .ok () w) ∧
      (∀ (x y : Value) (w : World) (S : Nat → Prop) (m : Pm) (a b : AV) (r : Bool), VR w S m a x → VR w S m b y → cellEq keq a b = some r → (Op.equal k x y).run P w = .ok r w) ∧
      (P.underlying k).isSome = true

structure TyOK (P : Program) (t : TypeId) (ti : TI) : Prop where
  info : ∃ i z, P.info? t = some i ∧ i.size = ti.size ∧ i.zero = some z ∧ ZC ti.zero z
  und : ∃ d, P.underlying t = some d ∧ d.isRow = ti.agg ∧ KindOK P d ti.kind
  eq : ∀ ks, ti.eqk = some ks → ∀ (xs ys : List AV) (us vs : List Value) (w : World) (S : Nat → Prop) (m : Pm) (r : Bool), LR w S m xs us → LR w S m ys vs →
    eqs ks xs ys = some r → P.eqGuardType P.depth t = false ∧ (Op.equal t (.agg ⟨us⟩) (.agg ⟨vs⟩)).run P w = .ok r w

def TabOK (P : Program) (Θ : Tab) : Prop := ∀ t ti, Θ t = some ti → TyOK P t ti

end Go.Av
