/-
  Operations that look at no memory. Conditions: none.
-/
import Derived.Test.YtiiogleijmcccaaA9
namespace Go.Av

section
variable {P : Program} {w : World} {S F : Nat → Prop} {m : Pm} {g : Heap} {sz : Nat}

theorem size_part {cs : List AV} {vs : List Value} (h : LR w S m cs vs) (o n : Nat) : LR w S m ((cs.drop o).take n) ((vs.drop o).take n) := (h.drop o).take n

theorem part_ok {t : TypeId} {i : TypeInfo} {d : TypeDesc} {gg : Bool} (hi : P.info? t = some i) (hu : P.underlying t = some d) (hd : d.isRow = gg) {cs : List AV} {vs : List Value} (hl : LR w S m cs vs)
    {o : Nat} (hle : o + i.size ≤ cs.length) {v : AV} (hv : ofCells gg ((cs.drop o).take i.size) = some v) : ∃ v', (part t ⟨vs⟩ o).run P w = .ok v' w ∧ VR w S m v v' := by
  obtain ⟨h1, h2⟩ := VR.ofCells (size_part hl o i.size) hv
  cases hgg : gg with
  | true =>
    refine ⟨_, ?_, h1 hgg⟩
    simp [part, run_isAgg hu, hd, hgg, sizeOf, typeInfo, hi, List.extract_eq_take_drop, Nat.add_sub_cancel_left]
  | false =>
    obtain ⟨v', hv', hr⟩ := h2 hgg
    refine ⟨v', ?_, hr⟩
    have hvo : vs[o]? = some v' := by
      have : ((vs.drop o).take i.size)[0]? = some v' := by rw [hv']; rfl
      rw [List.getElem?_take] at this
      split at this
      · rw [List.getElem?_drop] at this; simpa using this
      · cases this
    simp [part, run_isAgg hu, hd, hgg, hvo]

theorem field_ok {t : TypeId} {ti : TI} (hT : TyOK P t ti) {a v : AV} {f : Nat} {c : Cls} {u : Upd} {x : Value} (h : aField ti a f = some (c, v, u)) (hx : VR w S m a x) :
    u = [] ∧ ∃ v', (Instr.fieldAt t x f).run P w = .ok v' w ∧ VR w S m v v' := by
  unfold aField at h
  split at h
  · rename_i fs hk
    obtain ⟨d, hund, _, hkind⟩ := hT.und
    rw [hk] at hkind
    obtain ⟨fields, hd, _, hall⟩ := hkind
    subst hd
    split at h
    · rename_i o s gg hf
      obtain ⟨fd, i, d', h1, h2, h3, h4, h5, h6⟩ := hall f o s gg hf
      split at h
      · cases h
      · rename_i hs0
        have hsz : ¬ i.size = 0 := by omega
        split at h
        · rename_i b i' off
          simp only [Option.some.injEq, Prod.mk.injEq] at h
          obtain ⟨_, hv, hu⟩ := h
          subst hv
          refine ⟨hu.symm, ?_⟩
          cases hx with
          | ptr _ _ _ p hm =>
          refine ⟨_, ?_, .ptr b i' (off + o) p hm⟩
          simp [Instr.fieldAt, run_underlying hund, h1, Instr.sureAddr, fieldPlace, sizeOf, typeInfo, h3, hsz, Addr.add_n, h2, Nat.add_assoc]
        · rename_i cs off
          simp only [Option.some.injEq, Prod.mk.injEq] at h
          obtain ⟨_, hv, hu⟩ := h
          subst hv
          refine ⟨hu.symm, ?_⟩
          cases hx with
          | rp _ _ blk o' us hS hc hr =>
          refine ⟨_, ?_, .rp cs (off + o) blk o' us hS hc hr⟩
          simp [Instr.fieldAt, run_underlying hund, h1, Instr.sureAddr, fieldPlace, sizeOf, typeInfo, h3, hsz, Addr.add_n, h2, Nat.add_assoc]
        · cases h
    · cases h
  · cases h

theorem fieldV_ok {t : TypeId} {ti : TI} (hT : TyOK P t ti) {a v : AV} {f : Nat} {c : Cls} {u : Upd} {x : Value} (h : aFieldV ti a f = some (c, v, u)) (hx : VR w S m a x) :
    u = [] ∧ ∃ v', (Instr.field t x f).run P w = .ok v' w ∧ VR w S m v v' := by
  unfold aFieldV at h
  split at h
  · rename_i fs cs hk
    obtain ⟨d, hund, _, hkind⟩ := hT.und
    rw [hk] at hkind
    obtain ⟨fields, hd, _, hall⟩ := hkind
    subst hd
    split at h
    · rename_i o s gg hf
      obtain ⟨fd, i, d', h1, h2, h3, h4, h5, h6⟩ := hall f o s gg hf
      split at h
      · rename_i hle
        split at h
        · rename_i v1 hv1
          simp only [Option.some.injEq, Prod.mk.injEq] at h
          obtain ⟨_, hv, hu⟩ := h
          subst hv
          refine ⟨hu.symm, ?_⟩
          cases hx with
          | agg _ vs hl hr =>
          subst h4
          obtain ⟨v', k1, k2⟩ := part_ok (w := w) (S := S) (m := m) h3 h5 h6 ⟨hl, hr⟩ hle hv1
          refine ⟨v', ?_, k2⟩
          simp [Instr.field, run_underlying hund, h1, asAgg, h2, k1]
        · cases h
      · cases h
    · cases h
  · cases h

theorem indexAddr_ok {t : TypeId} {ti : TI} (hT : TyOK P t ti) {a ix v : AV} {c : Cls} {u : Upd} {x y : Value} (h : aIndexAddr ti a ix = some (c, v, u)) (hx : VR w S m a x) (hy : VR w S m ix y) :
    u = [] ∧ ∃ v', (Instr.indexAt t x y).run P w = .ok v' w ∧ VR w S m v v' := by
  obtain ⟨d, hund, _, hkind⟩ := hT.und
  unfold aIndexAddr at h
  split at h
  · rename_i esz eb ez b off len sz k i hk
    rw [hk] at hkind
    obtain ⟨e, ei, z, hd, hi, hisz, _⟩ := hkind
    subst hd
    split at h
    · rename_i hc
      obtain ⟨h0, h1, rfl⟩ := hc
      simp only [Option.some.injEq, Prod.mk.injEq] at h
      obtain ⟨_, hv, hu⟩ := h
      subst hv
      refine ⟨hu.symm, ?_⟩
      cases hy
      generalize hav : AV.sl b off len sz = av at hx
      cases hx <;> simp only [reduceCtorEq, AV.sl.injEq] at hav
      case sl b' off' len' cap p _ _ _ _ hm =>
      obtain ⟨rfl, rfl, rfl, hps⟩ := hav
      refine ⟨_, ?_, .ptr b (off + i.toNat) 0 p hm⟩
      simp [Instr.indexAt, run_underlying hund, asIntOf, h0, h1, sizeOf, typeInfo, hi, hisz, Addr.add_n, hps, Nat.add_mul, Nat.add_assoc]
    · cases h
  · rename_i esz eb ez es k i hk
    rw [hk] at hkind
    obtain ⟨e, ei, z, hd, hi, hisz, _⟩ := hkind
    subst hd
    split at h
    · rename_i h0
      split at h
      · rename_i el hel
        split at h
        · rename_i hlen
          simp only [Option.some.injEq, Prod.mk.injEq] at h
          obtain ⟨_, hv, hu⟩ := h
          subst hv
          refine ⟨hu.symm, ?_⟩
          cases hy
          have hlt : i.toNat < es.length := (List.getElem?_eq_some_iff.1 hel).1
          cases hx with
          | ron a cap => simp at hlt
          | ro _ blk o sz cap us hS hz hcap hcc hr =>
          have h1 : i < (es.length : Int) := by omega
          have hsz : sz = esz := by rw [← hlen]; exact (hz _ _ hel).1.symm
          subst hsz
          refine ⟨_, ?_, .rp el 0 blk (o + i.toNat * sz) (us i.toNat) hS (fun j c hj => hcc i.toNat j c (by simp [getc, hel, hj])) (fun j c hj => hr i.toNat j c (by simp [getc, hel, hj]))⟩
          simp [Instr.indexAt, run_underlying hund, asIntOf, h0, h1, sizeOf, typeInfo, hi, hisz, Addr.add_n]
        · cases h
      · cases h
    · cases h
  · rename_i n esz gg b j off k i hk
    rw [hk] at hkind
    obtain ⟨e, ei, d', hd, hi, hisz, _⟩ := hkind
    subst hd
    split at h
    · rename_i hc
      obtain ⟨h0, h1⟩ := hc
      simp only [Option.some.injEq, Prod.mk.injEq] at h
      obtain ⟨_, hv, hu⟩ := h
      subst hv
      refine ⟨hu.symm, ?_⟩
      cases hy
      cases hx with
      | ptr _ _ _ p hm =>
      refine ⟨_, ?_, .ptr b j (off + i.toNat * esz) p hm⟩
      simp [Instr.indexAt, run_underlying hund, asIntOf, h0, h1, sizeOf, typeInfo, hi, hisz, Addr.add_n, Instr.sureAddr, Nat.add_assoc]
    · cases h
  · rename_i n esz gg cs off k i hk
    rw [hk] at hkind
    obtain ⟨e, ei, d', hd, hi, hisz, _⟩ := hkind
    subst hd
    split at h
    · rename_i hc
      obtain ⟨h0, h1⟩ := hc
      simp only [Option.some.injEq, Prod.mk.injEq] at h
      obtain ⟨_, hv, hu⟩ := h
      subst hv
      refine ⟨hu.symm, ?_⟩
      cases hy
      cases hx with
      | rp _ _ blk o us hS hcc hr =>
      refine ⟨_, ?_, .rp cs (off + i.toNat * esz) blk o us hS hcc hr⟩
      simp [Instr.indexAt, run_underlying hund, asIntOf, h0, h1, sizeOf, typeInfo, hi, hisz, Addr.add_n, Instr.sureAddr, Nat.add_assoc]
    · cases h
  · cases h

theorem index_ok {t : TypeId} {ti : TI} (hT : TyOK P t ti) {a ix v : AV} {c : Cls} {u : Upd} {x y : Value} (h : aIndex ti a ix = some (c, v, u)) (hx : VR w S m a x) (hy : VR w S m ix y) :
    u = [] ∧ ∃ v', (Instr.index t x y).run P w = .ok v' w ∧ VR w S m v v' := by
  obtain ⟨d, hund, _, hkind⟩ := hT.und
  unfold aIndex at h
  split at h
  · rename_i n esz gg cs k i hk
    rw [hk] at hkind
    obtain ⟨e, ei, d', hd, hi, hisz, hu', hd'⟩ := hkind
    subst hd
    split at h
    · rename_i hc
      obtain ⟨h0, h1, h2⟩ := hc
      split at h
      · rename_i v1 hv1
        simp only [Option.some.injEq, Prod.mk.injEq] at h
        obtain ⟨_, hv, hu⟩ := h
        subst hv
        refine ⟨hu.symm, ?_⟩
        cases hy
        cases hx with
        | agg _ vs hl hr =>
        subst hisz
        obtain ⟨v', k1, k2⟩ := part_ok (w := w) (S := S) (m := m) hi hu' hd' ⟨hl, hr⟩ h2 hv1
        refine ⟨v', ?_, k2⟩
        simp [Instr.index, run_underlying hund, asIntOf, h0, h1, sizeOf, typeInfo, hi, k1]
      · cases h
    · cases h
  · rename_i s k i hk
    rw [hk] at hkind
    replace hkind : d = .string := hkind
    subst hkind
    split at h
    · rename_i h0
      split at h
      · rename_i b hb
        simp only [Option.some.injEq, Prod.mk.injEq] at h
        obtain ⟨_, hv, hu⟩ := h
        subst hv
        refine ⟨hu.symm, ?_⟩
        cases hy; cases hx
        refine ⟨.int .u8 b.toNat, ?_, .int _ _⟩
        simp [Instr.index, run_underlying hund, asIntOf, h0, hb]
      · cases h
    · cases h
  · cases h

theorem extract_ok {cs : List AV} {i : Nat} {v : AV} {x : Value} (h : cs[i]? = some v) (hx : VR w S m (.tup cs) x) : ∃ v', (Instr.extract x i).run P w = .ok v' w ∧ VR w S m v v' := by
  cases hx with
  | tup _ vs hl hr =>
  obtain ⟨u, hu, hru⟩ := LR.get ⟨hl, hr⟩ h
  refine ⟨u, ?_, hru⟩
  simp [Instr.extract, hu]

theorem len_ok {t ty : TypeId} {ti : TI} (hT : TyOK P t ti) {hc : Heap} {n0 : Nat} {a v : AV} {c : Cls} {u : Upd} {x : Value} (hl : lenT ti a = true) (h : aLen hc n0 a = some (c, v, u)) (hx : VR w S m a x) :
    u = [] ∧ ∃ v', (Builtin.len_ #[t] ty #[x]).run P w = .ok v' w ∧ VR w S m v v' := by
  obtain ⟨d, hu, _, hkind⟩ := hT.und
  cases hx <;> simp only [aLen, Option.some.injEq, Prod.mk.injEq, reduceCtorEq] at h <;> simp only [lenT, Bool.false_eq_true] at hl
  case str =>
    split at hl
    · rename_i hk
      rw [hk] at hkind
      replace hkind : d = .string := hkind
      subst hkind
      obtain ⟨_, rfl, rfl⟩ := h
      exact ⟨rfl, _, by simp [Builtin.len_, run_underlying hu, goInt], .int _ _⟩
    · cases hl
  all_goals
    split at hl
    · rename_i hk
      rw [hk] at hkind
      obtain ⟨e, _, _, rfl, _⟩ := hkind
      obtain ⟨_, rfl, rfl⟩ := h
      exact ⟨rfl, _, by simp [Builtin.len_, run_underlying hu, goInt], .int _ _⟩
    · cases hl

theorem bits_ok {op : BinOp} {k : IntKind} {a b r : Int} (h : bitsOf op k a b = some r) : (Op.intBits op k a b).run P w = .ok (.int k r) w := by
  unfold bitsOf at h
  cases op <;> simp only [Option.some.injEq, reduceCtorEq] at h <;> subst h <;> simp [Op.intBits]

theorem eqA_ok {Θ : Tab} (hT : TabOK P Θ) {ty : TypeId} {x y : AV} {r : Bool} {xv yv : Value} (h : aEq (Θ ty) x y = some r) (hx : VR w S m x xv) (hy : VR w S m y yv) :
    (Op.equal ty xv yv).run P w = .ok r w ∧ ∀ op ox oy, (eqGuard op ty ox oy xv yv).run P w = .ok () w := by
  unfold aEq at h
  split at h
  · rename_i a b
    split at h
    · rename_i hk
      simp only [Option.some.injEq] at h
      subst h
      cases hti : Θ ty with
      | none => simp [hti] at hk
      | some ti =>
        simp [hti] at hk
        obtain ⟨d, hu, _, hkind⟩ := (hT ty ti hti).und
        rw [hk] at hkind
        replace hkind : d = .bool := hkind
        subst hkind
        cases hx; cases hy
        refine ⟨by
          have e : ∀ a b : Value, Op.equal ty a b = Op.equalIn (9999 + 1) ty a b := fun _ _ => rfl
          rw [e, Op.equalIn]
          simp only [Sem.run_bind, run_underlying hu, Result.andThen_ok, Sem.run_pure], fun op ox oy => by cases op <;> simp [eqGuard]⟩
    · cases h
  · rename_i xs ys
    split at h
    · rename_i ti hti
      split at h
      · rename_i ks hks
        cases hx with
        | agg _ us hl hr =>
        cases hy with
        | agg _ vs hl' hr' =>
        obtain ⟨h1, h2⟩ := (hT ty ti hti).eq ks hks xs ys us vs w S m r ⟨hl, hr⟩ ⟨hl', hr'⟩ h
        refine ⟨h2, fun op ox oy => ?_⟩
        cases op <;> simp [eqGuard, program, Sem.run, h1]
      · cases h
    · cases h
  · cases h

theorem bin_ok {Θ : Tab} (hT : TabOK P Θ) {op : BinOp} {ty : TypeId} {ox oy : Operand} {x y v : AV} {xv yv : Value} (h : aBin Θ op ty x y = some v) (hx : VR w S m x xv) (hy : VR w S m y yv) :
    ∃ v', (do eqGuard op ty ox oy xv yv; binOp op ty xv yv : Sem Value).run P w = .ok v' w ∧ VR w S m v v' := by
  unfold aBin at h
  split at h
  case h_1 | h_2 =>
    split at h
    · rename_i h0
      simp only [Option.some.injEq] at h
      subst h
      cases hx; cases hy
      have h0' : ¬ (_ : Int) < 0 := Int.not_lt.2 h0
      exact ⟨_, by simp [eqGuard, binOp, Op.shift, h0'], .int _ _⟩
    · cases h
  case h_3 | h_4 | h_5 =>
    split at h
    · rename_i h0
      simp only [Option.some.injEq] at h
      subst h0 h
      cases hx; cases hy
      exact ⟨_, by simp [eqGuard, binOp, Op.intArith], .int _ _⟩
    · cases h
  case h_6 | h_7 =>
    split at h
    · rename_i h0
      simp only [Option.some.injEq] at h
      obtain ⟨rfl, hb⟩ := h0
      subst h
      cases hx; cases hy
      exact ⟨_, by simp [eqGuard, binOp, Op.intDiv, hb], .int _ _⟩
    · cases h
  case h_8 | h_9 | h_10 | h_11 =>
    split at h
    · rename_i h0
      subst h0
      simp only [Option.map_eq_some_iff] at h
      obtain ⟨r, hr, rfl⟩ := h
      cases hx; cases hy
      exact ⟨_, by simp [eqGuard, binOp, bits_ok hr], .int _ _⟩
    · cases h
  case h_12 | h_13 | h_14 | h_15 | h_16 | h_17 =>
    split at h
    · rename_i h0
      simp only [Option.some.injEq] at h
      subst h0 h
      cases hx; cases hy
      exact ⟨_, by simp [eqGuard, binOp, Op.intCmp], .bool _⟩
    · cases h
  case h_18 | h_20 =>
    simp only [Option.map_eq_some_iff] at h
    obtain ⟨r, hr, rfl⟩ := h
    obtain ⟨h1, h2⟩ := eqA_ok hT hr hx hy
    cases hx; cases hy
    exact ⟨_, by simp [h2, binOp, h1], .bool _⟩
  case h_19 | h_21 =>
    simp only [Option.map_eq_some_iff] at h
    obtain ⟨r, hr, rfl⟩ := h
    obtain ⟨h1, h2⟩ := eqA_ok hT hr hx hy
    cases hx; cases hy
    exact ⟨_, by simp [h2, binOp, h1], .bool _⟩
  case h_22 => cases h

theorem un_ok {op : UnOp} {x v : AV} {xv : Value} (h : aUn op x = some v) (hx : VR w S m x xv) : ∃ v', (Op.unary op xv).run P w = .ok v' w ∧ VR w S m v v' := by
  unfold aUn at h
  split at h
  · simp only [Option.some.injEq] at h; subst h; cases hx; exact ⟨_, by simp [Op.unary], .bool _⟩
  · simp only [Option.some.injEq] at h; subst h; cases hx; exact ⟨_, by simp [Op.unary, Op.intArith], .int _ _⟩
  · cases h

theorem conv_ok {Θ : Tab} (hT : TabOK P Θ) {src dst : TypeId} {d0 : TypeDesc} (hs : P.underlying src = some d0) {x v : AV} {xv : Value} (h : aConv Θ dst x = some v) (hx : VR w S m x xv) :
    ∃ v', (convert src dst xv).run P w = .ok v' w ∧ VR w S m v v' := by
  unfold aConv at h
  split at h
  · rename_i k k' n hk
    simp only [Option.some.injEq] at h; subst h; cases hx
    cases hti : Θ dst with
    | none => simp [hti] at hk
    | some ti =>
      simp [hti] at hk
      obtain ⟨d, hu, _, hkind⟩ := (hT dst ti hti).und
      rw [hk] at hkind
      replace hkind : d = .int k := hkind
      subst hkind
      exact ⟨_, by simp [convert, run_underlying hs, run_underlying hu, Conv.intToInt], .int _ _⟩
  · rename_i s hk
    simp only [Option.some.injEq] at h; subst h; cases hx
    cases hti : Θ dst with
    | none => simp [hti] at hk
    | some ti =>
      simp [hti] at hk
      obtain ⟨d, hu, _, hkind⟩ := (hT dst ti hti).und
      rw [hk] at hkind
      replace hkind : d = .string := hkind
      subst hkind
      exact ⟨_, by simp [convert, run_underlying hs, run_underlying hu], .str _⟩
  · cases h

theorem min_ok {ts : Array TypeId} {ty : TypeId} {as : List AV} {vs : List Value} {v : AV} (hl : LR w S m as vs) (h : minInt as = some v) :
    ∃ v', (Builtin.min_ ts ty vs.toArray).run P w = .ok v' w ∧ VR w S m v v' := by
  unfold minInt at h
  split at h
  · rename_i k x k' y
    split at h
    · rename_i hk
      simp only [Option.some.injEq] at h
      subst hk h
      match vs, hl with
      | [a, b], hl =>
        have h1 := hl.2 0 _ a rfl rfl
        have h2 := hl.2 1 _ b rfl rfl
        cases h1; cases h2
        exact ⟨_, by simp [Builtin.min_, Builtin.min2], .int _ _⟩
    · cases h
  · cases h

/-- A bound of a cut. -/
def OV (w : World) (S : Nat → Prop) (m : Pm) : Option AV → Option Value → Prop
  | none, none => True
  | some a, some v => VR w S m a v
  | _, _ => False

theorem bd_ok {d y : Nat} {o : Option AV} {ov : Option Value} {r : Nat} (h : bd d o = some r) (ho : OV w S m o ov) (hle : r ≤ y) (code : BoundsCode) :
    (ov = none ∧ r = d) ∨ ∃ v, ov = some v ∧ (Instr.sliceBound v y code).run P w = .ok r w := by
  cases o with
  | none =>
    cases ov with
    | none => simp [bd] at h; exact .inl ⟨rfl, h.symm⟩
    | some _ => exact ho.elim
  | some a =>
    cases ov with
    | none => exact ho.elim
    | some v =>
      refine .inr ⟨v, rfl, ?_⟩
      unfold bd at h
      split at h
      · rename_i he; cases he
      · rename_i k i he
        cases he
        split at h
        · rename_i h0
          simp only [Option.some.injEq] at h
          subst h
          cases ho
          have : i ≤ (y : Int) := by omega
          simp [Instr.sliceBound, asIntOf, h0, this]
        · cases h
      · cases h

end
end Go.Av
