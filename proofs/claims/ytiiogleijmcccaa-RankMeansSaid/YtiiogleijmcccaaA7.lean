/-
  Operations that write and make memory. Conditions: none.
-/
import Derived.Test.YtiiogleijmcccaaA6
namespace Go.Av

section
variable {P : Program} {w : World} {S F : Nat → Prop} {m : Pm} {g : Heap}

theorem over_length {e : List AV} {off : Nat} {cs : List AV} (h : off + cs.length ≤ e.length) : (over e off cs).length = e.length := by
  simp [over]; omega

theorem over_scal {e : List AV} {off : Nat} {cs : List AV} (h : e.all scal = true) (k : cs.all scal = true) : (over e off cs).all scal = true := by
  simp only [over, List.all_append, Bool.and_eq_true, k, and_true]
  rw [List.all_eq_true] at h
  exact ⟨List.all_eq_true.2 fun x hx => h x (List.mem_of_mem_take hx), List.all_eq_true.2 fun x hx => h x (List.mem_of_mem_drop hx)⟩

theorem LR.over {e : List AV} {u : List Value} (h : LR w S m e u) {off : Nat} {cs : List AV} {us : List Value} (k : LR w S m cs us) :
    LR w S m (over e off cs) (u.take off ++ us ++ u.drop (off + us.length)) := by
  unfold Av.over
  rw [k.1]
  exact ((h.take off).append k).append (h.drop (off + cs.length))

theorem LR.one {cs : List AV} {us : List Value} (h : LR w S m cs us) (hs : cs.all scal = true) : ∀ v ∈ us, v.oneCell' = true := by
  intro v hv
  obtain ⟨i, hi, he⟩ := List.mem_iff_getElem.1 hv
  have hi' : i < cs.length := by rw [← h.1]; exact hi
  refine (h.2 i cs[i] v (by simp [hi']) (by simp [hi, he])).scal1 ?_
  exact List.all_eq_true.1 hs _ (List.getElem_mem _)

/-- The elements with one of them overwritten in part, in the world. -/
theorem write_seg (h : Rel w S F m g) {b : Nat} {p : Pl} {es : List (List AV)} (hg : g b = some (.cells es)) (hm : m b = some p) {i : Nat} {e : List AV} (he : es[i]? = some e)
    {off : Nat} {cs : List AV} {us : List Value} (hl : off + cs.length ≤ e.length) (hc : LR w S m cs us) (hsc : cs.all scal = true) :
    Rel (w.setCells p.blk (p.off + i * p.sz + off) us) S F m (upd g b (some (.cells (es.set i (over e off cs))))) ∧
    (∀ j, j < us.length → (w.cell? ⟨p.blk, p.off + i * p.sz + off + j, none⟩).isSome = true ∧ w.frozen? ⟨p.blk, p.off + i * p.sz + off + j, none⟩ = false) := by
  obtain ⟨arr, ty, h1, h2, h3, h4, h5⟩ := (h.content b _ p hg hm).er
  have hi : i < es.length := (List.getElem?_eq_some_iff.1 he).1
  obtain ⟨hz, hz', hL⟩ := h5.each i e he
  have hseg := mul_lt_seg (sz := p.sz) (h2 ▸ hi : i < p.ext)
  have hroom := Nat.mul_le_mul_right p.sz h3
  have hul := hc.1
  have hsz : p.off + i * p.sz + off + us.length ≤ arr.size := by omega
  constructor
  · obtain ⟨arr', k1, k2⟩ := setCells_heap p.blk us (p.off + i * p.sz + off) w arr ty (0, 0) h1 hsz
    have hext := setCells_ext p.blk us (p.off + i * p.sz + off) w
    have hap := h.apart b _ p hg hm
    refine h.write hg hm hext (CR.mk k1 (by simpa using h2) h3 ?_ ?_)
    · have : arr'.size = arr.size := by
        have := congrArg List.length k2
        simp at this; omega
      omega
    · have hE := (h5.mono (hext.mono fun k hk e => hap.1 (e ▸ hk)) (fun _ h => h) (fun _ _ h => h)).set hi
        ((hL.over (off := off) hc).mono (hext.mono fun k hk e => hap.1 (e ▸ hk)) (fun _ h => h) (fun _ _ h => h)) (by rw [over_length hl, hz]) (over_scal hz' hsc)
      have key : (arr'.toList.drop p.off).take (p.ext * p.sz) =
          ((arr.toList.drop p.off).take (p.ext * p.sz)).take (i * p.sz) ++ (((((arr.toList.drop p.off).take (p.ext * p.sz)).drop (i * p.sz)).take p.sz).take off ++ us ++
            ((((arr.toList.drop p.off).take (p.ext * p.sz)).drop (i * p.sz)).take p.sz).drop (off + us.length)) ++ ((arr.toList.drop p.off).take (p.ext * p.sz)).drop (i * p.sz + p.sz) := by
        rw [k2]
        exact seg_key arr.toList us p.off (p.ext * p.sz) (i * p.sz) p.sz off hseg (by rw [hul, ← hz]; exact hl) (by simp; omega)
      rw [key]
      exact hE
  · intro j hj
    refine ⟨?_, by simp [World.frozen?, h1]⟩
    rw [cell?_cells h1]
    have : p.off + i * p.sz + off + j < arr.size := by omega
    simp [this]

theorem run_storeVar_any {t : TypeId} {ti : TI} (hT : TyOK P t ti) {b o : Nat} {v : Value} (hz : v.cells.size = ti.size)
    (hc : ∀ j, j < v.cells.toList.length → (w.cell? ⟨b, o + j, none⟩).isSome = true ∧ w.frozen? ⟨b, o + j, none⟩ = false) (h1 : ∀ u ∈ v.cells.toList, u.oneCell' = true) :
    (storeVar t ⟨b, o, none⟩ v).run P w = .ok () (w.setCells b o v.cells.toList) := by
  have := run_storeCells_cells (P := P) b o v.cells.toList 0 w (fun j hj => by simpa using (hc j hj).1) (fun j hj => by simpa using (hc j hj).2) h1
  simp only [Nat.add_zero] at this
  simp [storeVar, hT.run_size, hz, this]

theorem store_ok {t : TypeId} {ti : TI} (hT : TyOK P t ti) {hc : Heap} {a x v : AV} {c : Cls} {u : Upd} {xa xv : Value}
    (h : aStore ti hc a x = some (c, v, u)) (ha : VR w S m a xa) (hx : VR w S m x xv) (hg : ∀ b o p, m b = some p → hc b = some o → g b = some o) (hr : Rel w S F m g) :
    v = .tup [] ∧ ∃ w', (Instr.storeAt t xa xv).run P w = .ok () w' ∧ Ext (fun k => S k ∨ F k) w w' ∧ Rel w' S F m (upds g u) := by
  unfold aStore at h
  split at h
  · rename_i b i off cs hcs
    split at h
    · rename_i es hb
      split at h
      · rename_i e he
        split at h
        · rename_i hcond
          obtain ⟨h1, h2, h3⟩ := hcond
          simp only [Option.some.injEq, Prod.mk.injEq] at h
          obtain ⟨_, hv, hu⟩ := h
          subst hu
          refine ⟨hv.symm, ?_⟩
          cases ha
          case ptr p hm =>
          have hL := hx.cells hcs
          have hgb := hg b _ p hm hb
          obtain ⟨k1, k2⟩ := write_seg hr hgb hm he h1 hL h3
          refine ⟨_, ?_, ?_, k1⟩
          · simp only [Instr.storeAt, Instr.sureAddr, Sem.run_bind, Sem.run_pure, Result.andThen_ok]
            exact run_storeVar_any hT (by have := hL.1; simp at this; omega) k2 (hL.one h3)
          · have hap := hr.apart b _ p hgb hm
            refine (setCells_ext _ _ _ _).mono fun k hk e => ?_
            subst e
            exact hk.elim hap.1 hap.2
        · cases h
      · cases h
    · cases h
  · cases h

theorem Ext.old {w' : World} (he : Ext (fun k => k < w.heap.size) w w') (hr : Rel w S F m g) : Ext (fun k => S k ∨ F k) w w' :=
  he.mono fun k hk => hk.elim (hr.inS k) (hr.inF k)

/-- A new block of one element. -/
theorem new_one (hr : Rel w S F m g) {s : Nat} (hs : m s = none) {cs : List AV} {v : Value} (hL : LR w S m cs v.cells.toList) (hsc : cs.all scal = true) (e : TypeId) :
    ∃ p, Rel (w.alloc (.cells v.cells e)) S F (setm m s p) (upd g s (some (.cells [cs]))) ∧ p.blk = w.heap.size ∧ p.off = 0 := by
  refine ⟨_, hr.born hs (es := [cs]) (arr := v.cells) (e := e) (sz := cs.length) (room := 1) (by simp) (by have := hL.1; simp at this; simp; omega) ?_, rfl, rfl⟩
  have : v.cells.toList.take ([cs].length * cs.length) = v.cells.toList := List.take_of_length_le (by rw [hL.1]; simp)
  rw [this]
  exact ER.one hL rfl hsc

theorem alloc_ok {t : TypeId} {ti : TI} (hT : TyOK P t ti) {s : Nat} {v : AV} {c : Cls} {u : Upd} (h : aAlloc ti s = some (c, v, u)) (hs : m s = none) (hr : Rel w S F m g) :
    ∃ v' w' p, (Instr.alloc t true (.tuple #[])).run P w = .ok v' w' ∧ Ext (fun k => S k ∨ F k) w w' ∧ VR w' S (setm m s p) v v' ∧ Rel w' S F (setm m s p) (upds g u) := by
  unfold aAlloc at h
  split at h
  · rename_i hsc
    simp only [Option.some.injEq, Prod.mk.injEq] at h
    obtain ⟨_, hv, hu⟩ := h
    subst hv hu
    obtain ⟨i, z, hi, _, hz, hzc⟩ := hT.info
    obtain ⟨p, k1, k2, k3⟩ := new_one hr hs (v := z) (hzc w S m) hsc t
    refine ⟨.pointer (some ⟨w.heap.size, 0, none⟩), _, p, ?_, (ext_alloc w _).old hr, ?_, k1⟩
    · simp [Instr.alloc, zeroValue, typeInfo, hi, hz, newVar, newRow]
    · have := VR.ptr (w := w.alloc (.cells z.cells t)) (S := S) (m := setm m s p) s 0 0 p setm_same
      simpa [k2, k3] using this
  · cases h

theorem box_ok {t : TypeId} {s : Nat} {x v : AV} {c : Cls} {u : Upd} {xv : Value} (h : aBox s x = some (c, v, u)) (hx : VR w S m x xv) (hs : m s = none) (hr : Rel w S F m g) :
    ∃ v' w' p, (Instr.box t xv).run P w = .ok v' w' ∧ Ext (fun k => S k ∨ F k) w w' ∧ VR w' S (setm m s p) v v' ∧ Rel w' S F (setm m s p) (upds g u) := by
  unfold aBox at h
  split at h
  · rename_i cs hcs
    split at h
    · rename_i hsc
      simp only [Option.some.injEq, Prod.mk.injEq] at h
      obtain ⟨_, hv, hu⟩ := h
      subst hv hu
      obtain ⟨p, k1, k2, k3⟩ := new_one hr hs (v := xv) (hx.cells hcs) hsc t
      refine ⟨.pointer (some ⟨w.heap.size, 0, none⟩), _, p, ?_, (ext_alloc w _).old hr, ?_, k1⟩
      · simp [Instr.box, newVar, newRow]
      · have := VR.ptr (w := w.alloc (.cells xv.cells t)) (S := S) (m := setm m s p) s 0 0 p setm_same
        simpa [k2, k3] using this
    · cases h
  · cases h

end
end Go.Av
