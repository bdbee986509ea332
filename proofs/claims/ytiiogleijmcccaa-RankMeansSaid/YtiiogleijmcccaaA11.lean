/-
  Cuts; maps. Conditions: none.
-/
import Derived.Test.YtiiogleijmcccaaA10
namespace Go.Av

section
variable {P : Program} {w : World} {S F : Nat → Prop} {m : Pm} {g : Heap} {sz : Nat}

theorem bounds_ok {isS : Bool} {len cap h l : Nat} {lo hi : Option AV} {lov hiv : Option Value} (hh : bd len hi = some h) (hl : bd 0 lo = some l) (hlo : OV w S m lo lov) (hhi : OV w S m hi hiv)
    (h1 : h ≤ cap) (h2 : l ≤ h) : (Instr.sliceBounds isS len cap lov hiv none).run P w = .ok (l, h, cap) w := by
  unfold Instr.sliceBounds
  rcases bd_ok (P := P) hh hhi h1 (if isS then .sliceAcap else .sliceAlen) with ⟨rfl, rfl⟩ | ⟨v, rfl, hv⟩
  · rcases bd_ok (P := P) hl hlo h2 .sliceB with ⟨rfl, rfl⟩ | ⟨v', rfl, hv'⟩
    · simp
    · simp [hv']
  · rcases bd_ok (P := P) hl hlo h2 .sliceB with ⟨rfl, rfl⟩ | ⟨v', rfl, hv'⟩
    · simp [hv]
    · simp [hv, hv']

theorem slice_ok {t : TypeId} {ti : TI} (hT : TyOK P t ti) {a v : AV} {lo hi mx : Option AV} {lov hiv mxv : Option Value} {c : Cls} {u : Upd} {x : Value} (h : aSlice ti a lo hi mx = some (c, v, u))
    (hx : VR w S m a x) (hlo : OV w S m lo lov) (hhi : OV w S m hi hiv) (hmx : OV w S m mx mxv) : u = [] ∧ ∃ v', (Instr.sliceAt t x lov hiv mxv).run P w = .ok v' w ∧ VR w S m v v' := by
  obtain ⟨d, hund, _, hkind⟩ := hT.und
  have sl0 : ∀ (esz eb : Nat) (ez : List AV) (k : IntKind) (lenv capv : Nat) (ad : Option Addr), ti.kind = .slice esz eb ez → x = .slice ad lenv capv → mx = some (.int k 0) →
      (match bd 1 hi, bd 0 lo with | some 0, some 0 => (some (Cls.P, AV.nils, ([] : Upd)) : Res) | _, _ => none) = some (c, v, u) →
      u = [] ∧ ∃ v', (Instr.sliceAt t x lov hiv mxv).run P w = .ok v' w ∧ VR w S m v v' := by
    intro esz eb ez k lenv capv ad hk hx hmx0 hm
    subst hx hmx0
    rw [hk] at hkind
    obtain ⟨e, ei, z, hd, hi', hisz, _⟩ := hkind
    subst hd
    cases mxv with
    | none => exact hmx.elim
    | some mv =>
    replace hmx : VR w S m (.int k 0) mv := hmx
    cases hmx
    split at hm
    · rename_i hh hl
      simp only [Option.some.injEq, Prod.mk.injEq] at hm
      obtain ⟨_, rfl, rfl⟩ := hm
      refine ⟨rfl, .slice ad 0 0, ?_, .nils _⟩
      have hb0 : (Instr.sliceBound (.int k 0) capv .slice3Acap).run P w = .ok 0 w := by
        have : (0 : Int) ≤ (capv : Int) := by omega
        simp [Instr.sliceBound, asIntOf, this]
      rcases bd_ok (P := P) (y := 0) hh hhi (Nat.le_refl _) .slice3B with ⟨rfl, h10⟩ | ⟨hv, rfl, hhv⟩
      · omega
      · rcases bd_ok (P := P) (y := 0) hl hlo (Nat.le_refl _) .slice3C with ⟨rfl, _⟩ | ⟨lv, rfl, hlv⟩
        · simp [Instr.sliceAt, run_underlying hund, Instr.slice, Instr.sliceBounds, hb0, hhv, sizeOf, typeInfo, hi']
        · simp [Instr.sliceAt, run_underlying hund, Instr.slice, Instr.sliceBounds, hb0, hhv, hlv, sizeOf, typeInfo, hi']
    · cases hm
  unfold aSlice at h
  split at h
  · rename_i esz eb ez b off len sz hk
    rw [hk] at hkind
    obtain ⟨e, ei, z, hd, hi', hisz, _⟩ := hkind
    subst hd
    cases mxv with
    | some _ => exact hmx.elim
    | none =>
    split at h
    · rename_i hh ll hbh hbl
      split at h
      · rename_i hc
        obtain ⟨h1, h2, h3⟩ := hc
        subst h3
        simp only [Option.some.injEq, Prod.mk.injEq] at h
        obtain ⟨_, hv, hu⟩ := h
        refine ⟨hu.symm, ?_⟩
        generalize hav : AV.sl b off len sz = av at hx
        cases hx <;> simp only [reduceCtorEq, AV.sl.injEq] at hav
        case sl b' off' len' cap p k1 k2 k3 k4 hm =>
        obtain ⟨rfl, rfl, rfl, hps⟩ := hav
        have hb := bounds_ok (P := P) (isS := true) (cap := cap) hbh hbl hlo hhi (by omega) h2
        have hrun : (Instr.sliceAt t (.slice (some ⟨p.blk, p.off + off * p.sz, none⟩) len cap) lov hiv none).run P w =
            .ok (.slice (some (if cap = ll then ⟨p.blk, p.off + off * p.sz, none⟩ else ⟨p.blk, p.off + (off + ll) * p.sz, none⟩)) (hh - ll) (cap - ll)) w := by
          simp only [Instr.sliceAt, Instr.slice, Sem.run_bind, run_underlying hund, Result.andThen_ok, hb, sizeOf, typeInfo]
          simp [hi', hisz, hps, Nat.add_mul, Nat.add_assoc, Addr.add_n]
          split <;> rfl
        rw [hrun]
        refine ⟨_, rfl, ?_⟩
        by_cases hl0 : ll = 0
        · subst hl0
          simp only [if_true] at hv
          subst hv
          have e1 : (if cap = 0 then (⟨p.blk, p.off + off * p.sz, none⟩ : Addr) else ⟨p.blk, p.off + (off + 0) * p.sz, none⟩) = ⟨p.blk, p.off + off * p.sz, none⟩ := by split <;> rfl
          rw [e1, hps, Nat.sub_zero, Nat.sub_zero]
          exact .sl b off hh cap p hm k1 k2 (by omega) (by omega)
        · rw [if_neg hl0] at hv
          by_cases hlh : ll = hh
          · rw [if_pos hlh] at hv
            subst hv
            rw [hlh, Nat.sub_self]
            exact .ron _ _
          · rw [if_neg hlh] at hv
            subst hv
            have hne : ¬ cap = ll := by omega
            rw [if_neg hne, hps]
            exact .sl b (off + ll) (hh - ll) (cap - ll) p hm (by omega) (by omega) (by omega) (by omega)
      · cases h
    · cases h
  · rename_i esz eb ez es hk
    rw [hk] at hkind
    obtain ⟨e, ei, z, hd, hi', hisz, _⟩ := hkind
    subst hd
    cases mxv with
    | some _ => exact hmx.elim
    | none =>
    split at h
    · rename_i hh ll hbh hbl
      split at h
      · rename_i hc
        obtain ⟨h1, h2, h3⟩ := hc
        simp only [Option.some.injEq, Prod.mk.injEq] at h
        obtain ⟨_, hv, hu⟩ := h
        subst hv
        refine ⟨hu.symm, ?_⟩
        cases hx with
        | ron a cap =>
          simp at h1
          subst h1
          have hl0 : ll = 0 := by omega
          subst hl0
          have hb := bounds_ok (P := P) (isS := true) (cap := cap) hbh hbl hlo hhi (by omega) h2
          rw [List.length_nil] at hb
          refine ⟨.slice a 0 cap, ?_, by simpa using .ron a cap⟩
          simp only [Instr.sliceAt, Instr.slice, Sem.run_bind, run_underlying hund, Result.andThen_ok, List.length_nil, hb, sizeOf, typeInfo]
          cases a <;> simp [hi', Addr.add, hb]
        | ro _ blk o sz cap us hS hz hcap hcc hr =>
          have hb := bounds_ok (P := P) (isS := true) (cap := cap) hbh hbl hlo hhi (by omega) h2
          by_cases hlh : ll = hh
          · subst hlh
            refine ⟨.slice (if cap = ll then some ⟨blk, o, none⟩ else some ⟨blk, o + ll * esz, none⟩) 0 (cap - ll), ?_, ?_⟩
            · simp only [Instr.sliceAt, Instr.slice, Sem.run_bind, run_underlying hund, Result.andThen_ok, hb, sizeOf, typeInfo]
              simp [hi', hisz, Addr.add_n]
            · rw [Nat.sub_self, List.take_zero]; exact .ron _ _
          · have hlt : ll < es.length := by omega
            have hsz : sz = esz := by
              have e1 := (hz ll es[ll] (by simp [hlt])).1
              have e2 := h3 es[ll] (List.getElem_mem _)
              omega
            subst hsz
            have hlen : ((es.drop ll).take (hh - ll)).length = hh - ll := by simp; omega
            have hne : ¬ cap = ll := by omega
            refine ⟨.slice (some ⟨blk, o + ll * sz, none⟩) ((es.drop ll).take (hh - ll)).length (cap - ll), ?_, ?_⟩
            · rw [hlen]
              simp only [Instr.sliceAt, Instr.slice, Sem.run_bind, run_underlying hund, Result.andThen_ok, hb, sizeOf, typeInfo]
              simp [hi', hisz, Addr.add_n, hne]
            · have hget : ∀ i j c, getc ((es.drop ll).take (hh - ll)) i j = some c → getc es (ll + i) j = some c := by
                intro i j c hg
                unfold getc at *
                rw [List.getElem?_take] at hg
                split at hg
                · rw [List.getElem?_drop] at hg; exact hg
                · cases hg
              refine .ro _ blk (o + ll * sz) sz _ (fun i => us (ll + i)) hS (fun i e' he => ?_) (by rw [hlen]; omega) (fun i j c hg => ?_) (fun i j c hg => hr _ _ _ (hget i j c hg))
              · rw [List.getElem?_take] at he
                split at he
                · rw [List.getElem?_drop] at he; exact hz _ _ he
                · cases he
              · have := hcc _ _ _ (hget i j c hg)
                rw [show o + ll * sz + i * sz + j = o + (ll + i) * sz + j by rw [Nat.add_mul]; omega]
                exact this
      · cases h
    · cases h
  · rename_i esz eb ez hk
    rw [hk] at hkind
    obtain ⟨e, ei, z, hd, hi', hisz, _⟩ := hkind
    subst hd
    cases mxv with
    | some _ => exact hmx.elim
    | none =>
    split at h
    · rename_i hbh hbl
      simp only [Option.some.injEq, Prod.mk.injEq] at h
      obtain ⟨_, hv, hu⟩ := h
      subst hv
      refine ⟨hu.symm, ?_⟩
      cases hx with
      | nils a =>
        have hb := bounds_ok (P := P) (isS := true) (cap := 0) hbh hbl hlo hhi (Nat.le_refl _) (Nat.le_refl _)
        refine ⟨.slice a 0 0, ?_, .nils a⟩
        simp only [Instr.sliceAt, Instr.slice, Sem.run_bind, run_underlying hund, Result.andThen_ok, hb, sizeOf, typeInfo]
        cases a <;> simp [hi']
    · cases h
  · rename_i esz eb ez b off len sz k hk
    cases hx with
    | sl => exact sl0 esz eb ez k _ _ _ hk rfl rfl h
  · rename_i esz eb ez es k hk
    cases hx with
    | ron => exact sl0 esz eb ez k _ _ _ hk rfl rfl h
    | ro => exact sl0 esz eb ez k _ _ _ hk rfl rfl h
  · rename_i esz eb ez k hk
    cases hx with
    | nils => exact sl0 esz eb ez k _ _ _ hk rfl rfl h
  · rename_i s hk
    rw [hk] at hkind
    replace hkind : d = .string := hkind
    subst hkind
    cases mxv with
    | some _ => exact hmx.elim
    | none =>
    split at h
    · rename_i hh ll hbh hbl
      split at h
      · rename_i hc
        obtain ⟨h1, h2⟩ := hc
        simp only [Option.some.injEq, Prod.mk.injEq] at h
        obtain ⟨_, hv, hu⟩ := h
        subst hv
        refine ⟨hu.symm, ?_⟩
        cases hx with
        | str =>
          have hb := bounds_ok (P := P) (isS := false) (cap := s.size) hbh hbl hlo hhi h1 h2
          refine ⟨.string (s.extract ll hh), ?_, .str _⟩
          simp only [Instr.sliceAt, Instr.slice, Sem.run_bind, run_underlying hund, Result.andThen_ok, hb]
          simp [hb]
      · cases h
    · cases h
  · cases h

end
end Go.Av
