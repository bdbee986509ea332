/-
  Literals of structs and slices, make. Conditions: none.
-/
import Derived.Test.YtiiogleijmcccaaA7
import Derived.Laws.MakeOwn
namespace Go.Av

section
variable {P : Program} {w : World} {S F : Nat → Prop} {m : Pm} {g : Heap} {sz : Nat}

/-- Parts by their numbers. -/
def PR (w : World) (S : Nat → Prop) (m : Pm) : List (Nat × AV) → List (Nat × Value) → Prop
  | [], [] => True
  | (i, a) :: l, (j, v) :: k => i = j ∧ VR w S m a v ∧ PR w S m l k
  | _, _ => False

theorem splice (off : Nat) : ∀ (vs : List Value) (k : Nat) (cells : Array Value), off + k + vs.length ≤ cells.size →
    ((vs.zipIdx k).foldl (fun (cs : Array Value) (x : Value × Nat) => cs.setIfInBounds (off + x.2) x.1) cells).toList =
      cells.toList.take (off + k) ++ vs ++ cells.toList.drop (off + k + vs.length)
  | [], k, cells, _ => by simp
  | v :: r, k, cells, hl => by
    simp only [List.length_cons] at hl
    rw [List.zipIdx_cons, List.foldl_cons, splice off r (k + 1) (cells.setIfInBounds (off + k) v) (by simp; omega), Array.toList_setIfInBounds]
    have ho : off + k < cells.toList.length := by simp; omega
    rw [List.set_eq_take_append_cons_drop, if_pos ho]
    have hlt : (cells.toList.take (off + k)).length = off + k := by simp; omega
    rw [List.take_append, List.drop_append, hlt]
    simp [List.take_of_length_le (by rw [hlt]; omega : (cells.toList.take (off + k)).length ≤ off + (k + 1)), List.drop_of_length_le (by rw [hlt]; omega : (cells.toList.take (off + k)).length ≤ off + (k + 1) + r.length),
      show off + (k + 1) - (off + k) = 1 by omega, show off + (k + 1) + r.length - (off + k) = r.length + 1 by omega, show off + k + (r.length + 1) = off + (k + 1) + r.length by omega]
    rw [show off + k + 1 + (r.length) = off + (k + 1) + r.length by omega]

theorem splice_arr (off : Nat) (v : Value) (cells : Array Value) (h : off + v.cells.size ≤ cells.size) :
    (v.cells.zipIdx.foldl (fun (cs : Array Value) (x : Value × Nat) => cs.setIfInBounds (off + x.2) x.1) cells).toList =
      cells.toList.take off ++ v.cells.toList ++ cells.toList.drop (off + v.cells.toList.length) := by
  rw [← Array.foldl_toList, Array.toList_zipIdx]
  have := splice off v.cells.toList 0 cells (by simpa using h)
  simpa using this

theorem fill_ok {place place' : Nat → Option (Nat × Nat)} (hp : ∀ i o s, place i = some (o, s) → place' i = some (o, s)) :
    ∀ (ps : List (Nat × AV)) (pvs : List (Nat × Value)) (cs cs' : List AV) (vs : List Value), PR w S m ps pvs → LR w S m cs vs → fill place cs ps = some cs' →
      ∃ vs', Instr.fill place' ⟨vs⟩ pvs = some ⟨vs'⟩ ∧ LR w S m cs' vs'
  | [], [], cs, cs', vs, _, hl, h => by simp [fill] at h; subst h; exact ⟨vs, rfl, hl⟩
  | [], _ :: _, _, _, _, hp, _, _ => hp.elim
  | _ :: _, [], _, _, _, hp, _, _ => hp.elim
  | (i, a) :: ps, (j, v) :: pvs, cs, cs', vs, hpr, hl, h => by
    obtain ⟨rfl, hv, hpr'⟩ := hpr
    simp only [fill] at h
    split at h
    · rename_i off size l h1 h2
      split at h
      · rename_i hc
        have hL := hv.cells h2
        have e1 := hL.1
        simp only [Array.length_toList] at e1
        have e2 := hl.1
        have hsz : off + v.cells.size ≤ (⟨vs⟩ : Array Value).size := by simp; omega
        have hsp := splice_arr off v ⟨vs⟩ hsz
        obtain ⟨vs', k1, k2⟩ := fill_ok hp ps pvs _ cs' ((vs.take off) ++ v.cells.toList ++ vs.drop (off + v.cells.toList.length)) hpr' (hl.over hL) h
        refine ⟨vs', ?_, k2⟩
        have hne : (v.cells.size ≠ size || off + v.cells.size > (⟨vs⟩ : Array Value).size) = false := by
          simp only [Bool.or_eq_false_iff, decide_eq_false_iff_not, gt_iff_lt, Nat.not_lt, ne_eq, Decidable.not_not]
          exact ⟨by omega, by first | omega | (simp; omega)⟩
        simp only [Instr.fill, hp i off size h1]
        rw [if_neg (by rw [hne]; simp)]
        have : (v.cells.zipIdx.foldl (fun (cs : Array Value) (x : Value × Nat) => cs.setIfInBounds (off + x.2) x.1) ⟨vs⟩) =
            ⟨(vs.take off) ++ v.cells.toList ++ vs.drop (off + v.cells.toList.length)⟩ := Array.ext' hsp
        rw [this]
        exact k1
      · cases h
    · cases h

theorem fillS_ok : ∀ (ps : List (Nat × AV)) (pvs : List (Nat × Value)) (es es' : List (List AV)) (vs : List Value), PR w S m ps pvs → ER w S m sz es vs → fillS sz es ps = some es' →
      ∃ vs', Instr.fill (fun i => some (i * sz, sz)) ⟨vs⟩ pvs = some ⟨vs'⟩ ∧ ER w S m sz es' vs' ∧ es'.length = es.length
  | [], [], es, es', vs, _, hl, h => by simp [fillS] at h; subst h; exact ⟨vs, rfl, hl, rfl⟩
  | [], _ :: _, _, _, _, hp, _, _ => hp.elim
  | _ :: _, [], _, _, _, hp, _, _ => hp.elim
  | (i, a) :: ps, (j, v) :: pvs, es, es', vs, hpr, hl, h => by
    obtain ⟨rfl, hv, hpr'⟩ := hpr
    simp only [fillS] at h
    split at h
    · rename_i l h2
      split at h
      · rename_i hc
        obtain ⟨hc1, hc2, hc3⟩ := hc
        have hL := hv.cells h2
        have e1 := hL.1
        simp only [Array.length_toList] at e1
        have e2 := hl.len
        have hseg := mul_lt_seg (sz := sz) hc2
        have hsz : i * sz + v.cells.size ≤ (⟨vs⟩ : Array Value).size := by simp; omega
        have hsp := splice_arr (i * sz) v ⟨vs⟩ hsz
        have hE := hl.set hc2 hL hc1 hc3
        have hlen : v.cells.toList.length = sz := by simp; omega
        obtain ⟨vs', k1, k2, k3⟩ := fillS_ok ps pvs _ es' _ hpr' hE h
        refine ⟨vs', ?_, k2, by simpa using k3⟩
        have hne : (v.cells.size ≠ sz || i * sz + v.cells.size > (⟨vs⟩ : Array Value).size) = false := by
          simp only [Bool.or_eq_false_iff, decide_eq_false_iff_not, gt_iff_lt, Nat.not_lt, ne_eq, Decidable.not_not]
          exact ⟨by omega, by first | omega | (simp; omega)⟩
        simp only [Instr.fill]
        rw [if_neg (by rw [hne]; simp)]
        have : (v.cells.zipIdx.foldl (fun (cs : Array Value) (x : Value × Nat) => cs.setIfInBounds (i * sz + x.2) x.1) ⟨vs⟩) =
            ⟨(vs.take (i * sz)) ++ v.cells.toList ++ vs.drop (i * sz + sz)⟩ := Array.ext' (by rw [hsp, hlen])
        rw [this]
        exact k1
      · cases h
    · cases h

theorem madeCells_get (z : Array Value) (n i j : Nat) (hz : z.size = sz) (hi : i < n) (hj : j < sz) : (madeCells z (n * sz))[i * sz + j]? = z[j]? := by
  have hseg := mul_lt_seg (sz := sz) hi
  have hlt : i * sz + j < n * sz := by omega
  have hm : (i * sz + j) % z.size = j := by rw [hz, Nat.add_comm, Nat.add_mul_mod_self_right, Nat.mod_eq_of_lt hj]
  have hjz : j < z.size := by omega
  simp only [madeCells, Array.getElem?_map, Array.getElem?_range, if_pos hlt, Option.map_some, hm]
  simp [hjz]

theorem ER.made {ez : List AV} {z : Value} (hz : ZC ez z) (hl : ez.length = sz) (hsc : ez.all scal = true) (n : Nat) :
    ER w S m sz (List.replicate n ez) (madeCells z.cells (n * sz)).toList := by
  have hL := hz w S m
  have hzl : z.cells.size = sz := by have := hL.1; simp at this; omega
  refine ⟨by simp [size_madeCells], fun i e he => ?_⟩
  rw [List.getElem?_replicate] at he
  split at he
  · rename_i hi
    simp at he; subst he
    have hseg := mul_lt_seg (sz := sz) hi
    refine ⟨hl, hsc, by simp [size_madeCells, hl]; omega, fun j c v hc hv => ?_⟩
    have hj : j < sz := by rw [← hl]; exact (List.getElem?_eq_some_iff.1 hc).1
    rw [List.getElem?_take, if_pos hj, List.getElem?_drop, getElem?_toList, madeCells_get z.cells n i j hzl hi hj] at hv
    exact hL.2 j c v hc (by rw [getElem?_toList]; exact hv)
  · cases he

theorem make_ok {t : TypeId} {ti : TI} (hT : TyOK P t ti) {s : Nat} {x y v : AV} {c : Cls} {u : Upd} {xv yv : Value} (h : aMake ti s x y = some (c, v, u))
    (hx : VR w S m x xv) (hy : VR w S m y yv) (hs : m s = none) (hr : Rel w S F m g) :
    ∃ v' w' p, (Instr.makeSlice t xv yv).run P w = .ok v' w' ∧ Ext (fun k => S k ∨ F k) w w' ∧ VR w' S (setm m s p) v v' ∧ Rel w' S F (setm m s p) (upds g u) := by
  unfold aMake at h
  split at h
  · rename_i esz eb ez k1 n k2 n2 hk
    split at h
    · rename_i hc
      obtain ⟨rfl, h0, hb, hb0, hsz0, hzl, hsc⟩ := hc
      simp only [Option.some.injEq, Prod.mk.injEq] at h
      obtain ⟨_, hv, hu⟩ := h
      subst hv hu
      obtain ⟨d, hund, _, hkind⟩ := hT.und
      rw [hk] at hkind
      obtain ⟨e, i, z, hd, hi, hisz, hib, hiz, hzc⟩ := hkind
      subst hd
      cases hx; cases hy
      have hn : ((n.toNat : Nat) : Int) = n := Int.toNat_of_nonneg h0
      have hbe : (i.bytes : Int) * n ≤ 281474976710656 := by
        rw [hib, Int.mul_comm]; omega
      have hn63 : n ≤ 9223372036854775807 := by
        have h1 : n ≤ n * (eb : Int) := by
          have : n * 1 ≤ n * (eb : Int) := Int.mul_le_mul_of_nonneg_left (by omega) h0
          simpa using this
        omega
      have hrun := run_make (P := P) w t e i z hund hi hiz k1 k2 n n h0 (Int.le_refl _) hbe hn63
      rw [hisz] at hrun
      have hborn := hr.born hs (es := List.replicate n.toNat ez) (arr := madeCells z.cells (n.toNat * esz)) (e := e) (sz := esz) (room := n.toNat) (by simp) (by simp [size_madeCells])
        (by
          have := ER.made (w := w) (S := S) (m := m) hzc hzl hsc n.toNat
          have h2 := this.len
          rw [List.take_of_length_le (by rw [h2]; exact Nat.le_refl _)]
          exact this)
      refine ⟨_, _, _, hrun, (ext_alloc w _).old hr, ?_, hborn⟩
      have := VR.sl (w := w.alloc (.cells (madeCells z.cells (n.toNat * esz)) e)) (S := S) s 0 n.toNat n.toNat ⟨w.heap.size, 0, esz, (List.replicate n.toNat ez).length, n.toNat⟩ (setm_same (m := m)) (by simp) (by simp) (Nat.le_refl _) (by simp)
      simpa using this
    · cases h
  · cases h

theorem buildSlice_ok {t : TypeId} {ti : TI} (hT : TyOK P t ti) {len s : Nat} {ps : List (Nat × AV)} {pvs : List (Nat × Value)} {v : AV} {c : Cls} {u : Upd} (h : aBuildSlice ti len s ps = some (c, v, u))
    (hp : PR w S m ps pvs) (hs : m s = none) (hr : Rel w S F m g) :
    ∃ v' w' m', (Instr.buildSlice t len pvs.toArray).run P w = .ok v' w' ∧ Ext (fun k => S k ∨ F k) w w' ∧ (∀ b q, m b = some q → m' b = some q) ∧ (∀ b, b ≠ s → m' b = m b) ∧
      VR w' S m' v v' ∧ Rel w' S F m' (upds g u) := by
  unfold aBuildSlice at h
  split at h
  · rename_i esz eb ez hk
    obtain ⟨d, hund, _, hkind⟩ := hT.und
    rw [hk] at hkind
    obtain ⟨e, i, z, hd, hi, hisz, hib, hiz, hzc⟩ := hkind
    subst hd
    split at h
    · rename_i hlen
      subst hlen
      split at h
      · rename_i hemp
        have hps : ps = [] := by simpa using hemp
        subst hps
        simp only [Option.some.injEq, Prod.mk.injEq] at h
        obtain ⟨_, hv, hu⟩ := h
        subst hv hu
        cases pvs with
        | cons _ _ => exact hp.elim
        | nil =>
          refine ⟨.slice (some ⟨w.heap.size, 0, none⟩) 0 0, w.alloc (.cells #[] e), m, ?_, (ext_alloc w _).old hr, fun _ _ h => h, fun _ _ => rfl, .nils _, ?_⟩
          · simp [Instr.buildSlice, run_underlying hund, sizeOf, typeInfo, hi, Instr.fill, newRow, Array.range_zero']
          · have hE := ext_alloc w (.cells #[] e)
            exact ⟨fun b o p hg hm => (hr.content b o p hg hm).mono (hE.mono hr.inS) (fun _ h => h) (fun _ _ h => h) (hE.same _ (hr.inm b p hm)), hr.disj, hr.apart,
              fun k hk => Nat.lt_of_lt_of_le (hr.inS k hk) hE.size, fun k hk => Nat.lt_of_lt_of_le (hr.inF k hk) hE.size, fun b p hm => Nat.lt_of_lt_of_le (hr.inm b p hm) hE.size⟩
      · cases h
    · rename_i hlen
      split at h
      · rename_i hc
        obtain ⟨hbig, hzl, hsz0, hsc⟩ := hc
        split at h
        · rename_i es hes
          simp only [Option.some.injEq, Prod.mk.injEq] at h
          obtain ⟨_, hv, hu⟩ := h
          subst hv hu
          have hE0 := ER.made (w := w) (S := S) (m := m) hzc hzl hsc len
          obtain ⟨vs', k1, k2, k3⟩ := fillS_ok ps pvs _ es _ hp hE0 hes
          have hlen2 : es.length = len := by simpa using k3
          have hne : ¬ (len * esz = 0) := by
            intro h0
            rcases Nat.mul_eq_zero.1 h0 with h | h <;> omega
          have hborn := hr.born hs (es := es) (arr := ⟨vs'⟩) (e := e) (sz := esz) (room := len) (by omega) (by have := k2.len; simp [this, hlen2]) (by
            rw [List.take_of_length_le (by rw [k2.len]; exact Nat.le_refl _)]; exact k2)
          refine ⟨.slice (some ⟨w.heap.size, 0, none⟩) len len, _, _, ?_, (ext_alloc w _).old hr, setm_le hs, fun b hb => setm_ne hb, ?_, hborn⟩
          · have hbig' : ¬ (16777216 < len * esz) := by omega
            have hm : (Array.range (len * esz)).map (z.cells[· % z.cells.size]!) = madeCells z.cells (len * esz) := rfl
            have hpow : ¬ (len * esz > 2 ^ 24) := by simpa using hbig'
            simp only [Instr.buildSlice, Sem.run_bind, run_underlying hund, Result.andThen_ok, sizeOf, typeInfo, hi, hisz, zeroValue, hiz]
            simp [hi, hisz, hiz, hne, hpow, hm, k1, newRow, hbig']
          · have := VR.sl (w := w.alloc (.cells ⟨vs'⟩ e)) (S := S) s 0 len len ⟨w.heap.size, 0, esz, es.length, len⟩ (setm_same (m := m)) (by simp; omega) (by simp) (Nat.le_refl _) (by simp; omega)
            simpa using this
        · cases h
      · cases h
  · cases h

end
end Go.Av
