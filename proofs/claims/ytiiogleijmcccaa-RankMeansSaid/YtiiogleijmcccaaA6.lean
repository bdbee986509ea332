/-
  Rows of elements, as lists of cells. Conditions: none.
-/
import Derived.Test.YtiiogleijmcccaaA5
namespace Go.Av

/-- Elements of sz cells each, and the values of all cells. -/
structure ER (w : World) (S : Nat → Prop) (m : Pm) (sz : Nat) (es : List (List AV)) (vs : List Value) : Prop where
  len : vs.length = es.length * sz
  each : ∀ (i : Nat) (e : List AV), es[i]? = some e → e.length = sz ∧ e.all scal = true ∧ LR w S m e ((vs.drop (i * sz)).take sz)

section
variable {P : Program} {w : World} {S F : Nat → Prop} {m : Pm} {g : Heap} {sz : Nat}

theorem ER.nil : ER w S m sz [] [] := ⟨by simp, fun i e h => by simp at h⟩

theorem ER.one {e : List AV} {u : List Value} (h : LR w S m e u) (hz : e.length = sz) (hsc : e.all scal = true) : ER w S m sz [e] u :=
  ⟨by simp [h.1, hz], fun i e' he => by
    cases i with
    | zero => simp at he; subst he; exact ⟨hz, hsc, by simpa [List.take_of_length_le (by rw [h.1, hz]; exact Nat.le_refl _ : u.length ≤ sz)] using h⟩
    | succ i => simp at he⟩

theorem mul_lt_seg {i n sz : Nat} (h : i < n) : i * sz + sz ≤ n * sz := by
  have := Nat.mul_le_mul_right sz (Nat.succ_le_of_lt h)
  rwa [Nat.succ_mul] at this

theorem ER.append {a b : List (List AV)} {x y : List Value} (h : ER w S m sz a x) (k : ER w S m sz b y) : ER w S m sz (a ++ b) (x ++ y) := by
  refine ⟨by simp [h.len, k.len, Nat.add_mul], fun i e he => ?_⟩
  by_cases hi : i < a.length
  · rw [List.getElem?_append_left hi] at he
    obtain ⟨h1, h1', h2⟩ := h.each i e he
    refine ⟨h1, h1', ?_⟩
    have := mul_lt_seg (sz := sz) hi
    rw [List.drop_append_of_le_length (by rw [h.len]; omega), List.take_append_of_le_length (by simp [h.len]; omega)]
    exact h2
  · rw [List.getElem?_append_right (by omega)] at he
    obtain ⟨h1, h1', h2⟩ := k.each _ e he
    refine ⟨h1, h1', ?_⟩
    have e1 : i * sz = x.length + (i - a.length) * sz := by
      rw [h.len, ← Nat.add_mul]; congr 1; omega
    rw [e1, List.drop_append, List.drop_of_length_le (by omega : x.length ≤ x.length + (i - a.length) * sz), Nat.add_sub_cancel_left]
    simpa using h2

theorem ER.take {a : List (List AV)} {x : List Value} (h : ER w S m sz a x) (n : Nat) : ER w S m sz (a.take n) (x.take (n * sz)) := by
  by_cases hn : n ≤ a.length
  · refine ⟨by simp [h.len, Nat.min_eq_left hn, Nat.min_eq_left (Nat.mul_le_mul_right sz hn)], fun i e he => ?_⟩
    rw [List.getElem?_take] at he
    split at he
    · rename_i hi
      obtain ⟨h1, h1', h2⟩ := h.each i e he
      refine ⟨h1, h1', ?_⟩
      have := mul_lt_seg (sz := sz) hi
      rw [List.drop_take, List.take_take, Nat.min_eq_left (by omega)]
      exact h2
    · cases he
  · have hn' : a.length ≤ n := by omega
    rw [List.take_of_length_le hn', List.take_of_length_le (by rw [h.len]; exact Nat.mul_le_mul_right sz hn')]
    exact h

theorem ER.drop {a : List (List AV)} {x : List Value} (h : ER w S m sz a x) (n : Nat) : ER w S m sz (a.drop n) (x.drop (n * sz)) := by
  refine ⟨by simp [h.len, Nat.sub_mul], fun i e he => ?_⟩
  rw [List.getElem?_drop] at he
  obtain ⟨h1, h1', h2⟩ := h.each _ e he
  refine ⟨h1, h1', ?_⟩
  rw [List.drop_drop, ← Nat.add_mul]
  exact h2

theorem ER.replicate {e : List AV} {u : List Value} (h : LR w S m e u) (hz : e.length = sz) (hsc : e.all scal = true) : ∀ n, ER w S m sz (List.replicate n e) (List.replicate n u).flatten
  | 0 => by simpa using ER.nil
  | n + 1 => by
    rw [List.replicate_succ, List.replicate_succ, List.flatten_cons]
    exact (ER.one h hz hsc).append (ER.replicate h hz hsc n)

theorem ER.set {a : List (List AV)} {x : List Value} (h : ER w S m sz a x) {i : Nat} (hi : i < a.length) {e : List AV} {u : List Value} (he : LR w S m e u) (hz : e.length = sz) (hsc : e.all scal = true) :
    ER w S m sz (a.set i e) (x.take (i * sz) ++ u ++ x.drop (i * sz + sz)) := by
  have h1 : a.set i e = a.take i ++ ([e] ++ a.drop (i + 1)) := by
    rw [List.set_eq_take_append_cons_drop, if_pos hi]; simp
  have h2 : i * sz + sz = (i + 1) * sz := by rw [Nat.succ_mul]
  rw [h1, h2, List.append_assoc]
  exact (h.take i).append ((ER.one he hz hsc).append (h.drop (i + 1)))

theorem ER.mono {w' : World} {S' : Nat → Prop} {m' : Pm} {a : List (List AV)} {x : List Value} (h : ER w S m sz a x)
    (he : Ext S w w') (hs : ∀ i, S i → S' i) (hm : ∀ b p, m b = some p → m' b = some p) : ER w' S' m' sz a x :=
  ⟨h.len, fun i e hi => ⟨(h.each i e hi).1, (h.each i e hi).2.1, (h.each i e hi).2.2.mono he hs hm⟩⟩

/-- A live block's cells. -/
theorem CR.er {p : Pl} {es : List (List AV)} (h : CR w S m p (.cells es)) :
    ∃ arr e, w.heap[p.blk]? = some (.cells arr e (0, 0)) ∧ es.length = p.ext ∧ p.ext ≤ p.room ∧ p.off + p.room * p.sz ≤ arr.size ∧
      ER w S m p.sz es ((arr.toList.drop p.off).take (p.ext * p.sz)) := by
  obtain ⟨arr, ty, h1, h2, h2', h3, h4, h5⟩ := h
  refine ⟨arr, ty, h1, h2, h2', h3, ?_, fun i e he => ⟨(h4 i e he).1, (h4 i e he).2, ?_⟩⟩
  · have := Nat.mul_le_mul_right p.sz h2'
    simp [h2]; omega
  · have hi : i < p.ext := by rw [← h2]; exact (List.getElem?_eq_some_iff.1 he).1
    have hseg := mul_lt_seg (sz := p.sz) hi
    have hroom := Nat.mul_le_mul_right p.sz h2'
    have hz := (h4 i e he).1
    rw [List.drop_take, List.take_take, Nat.min_eq_left (by omega), List.drop_drop]
    refine ⟨by simp [hz]; omega, fun j c v hc hv => ?_⟩
    rw [List.getElem?_take] at hv
    have hj : j < p.sz := by rw [← hz]; exact (List.getElem?_eq_some_iff.1 hc).1
    rw [if_pos hj, List.getElem?_drop, getElem?_toList] at hv
    obtain ⟨v', hv', hr⟩ := h5 i j c (by simp [getc, he, hc])
    rw [show p.off + i * p.sz + j = p.off + i * p.sz + j from rfl, hv'] at hv
    cases hv
    exact hr

theorem CR.mk {p : Pl} {es : List (List AV)} {arr : Array Value} {e : TypeId} (h1 : w.heap[p.blk]? = some (.cells arr e (0, 0))) (h2 : es.length = p.ext)
    (h2' : p.ext ≤ p.room) (h3 : p.off + p.room * p.sz ≤ arr.size) (h4 : ER w S m p.sz es ((arr.toList.drop p.off).take (p.ext * p.sz))) : CR w S m p (.cells es) := by
  refine ⟨arr, e, h1, h2, h2', h3, fun i l hi => ⟨(h4.each i l hi).1, (h4.each i l hi).2.1⟩, fun i j c hc => ?_⟩
  unfold getc at hc
  cases he : es[i]? with
  | none => simp [he] at hc
  | some l =>
    simp [he] at hc
    obtain ⟨hz, _, hl⟩ := h4.each i l he
    obtain ⟨v, hv, hr⟩ := hl.get hc
    refine ⟨v, ?_, hr⟩
    have hi : i < p.ext := by rw [← h2]; exact (List.getElem?_eq_some_iff.1 he).1
    have hseg := mul_lt_seg (sz := p.sz) hi
    rw [List.getElem?_take] at hv
    split at hv
    · rename_i hj
      rw [List.getElem?_drop, List.getElem?_take, if_pos (by omega), List.getElem?_drop, getElem?_toList] at hv
      rw [show p.off + i * p.sz + j = p.off + (i * p.sz + j) by omega]; exact hv
    · cases hv

/-- What is written behind an offset of a block. -/
theorem setCells_heap (b : Nat) : ∀ (vs : List Value) (o : Nat) (w : World) (arr : Array Value) (e : TypeId) (fz : Nat × Nat), w.heap[b]? = some (.cells arr e fz) → o + vs.length ≤ arr.size →
    ∃ arr', (w.setCells b o vs).heap[b]? = some (.cells arr' e fz) ∧ arr'.toList = arr.toList.take o ++ vs ++ arr.toList.drop (o + vs.length)
  | [], o, w, arr, e, fz, h, _ => ⟨arr, h, by simp⟩
  | v :: r, o, w, arr, e, fz, h, hl => by
    have h1 : (w.setCell ⟨b, o, none⟩ v).heap[b]? = some (.cells (arr.setIfInBounds o v) e fz) := by
      simp only [World.setCell, Array.getElem?_modify, if_true, h, Option.map_some, Option.isSome_none, Bool.false_eq_true, if_false]
    simp only [List.length_cons] at hl
    obtain ⟨arr', h2, h3⟩ := setCells_heap b r (o + 1) (w.setCell ⟨b, o, none⟩ v) (arr.setIfInBounds o v) e fz h1 (by simp; omega)
    refine ⟨arr', h2, ?_⟩
    rw [h3, Array.toList_setIfInBounds]
    have ho : o < arr.toList.length := by simp; omega
    rw [List.set_eq_take_append_cons_drop, if_pos ho]
    have hlt : (arr.toList.take o).length = o := by simp; omega
    rw [List.take_append, List.drop_append, hlt]
    simp [List.take_of_length_le (by rw [hlt]; omega : (arr.toList.take o).length ≤ o + 1), List.drop_of_length_le (by rw [hlt]; omega : (arr.toList.take o).length ≤ o + 1 + r.length), hlt,
      show o + 1 - o = 1 by omega, show o + 1 + r.length - o = r.length + 1 by omega, show o + 1 + r.length = o + (r.length + 1) by omega]

theorem setCells_ext (b : Nat) : ∀ (vs : List Value) (o : Nat) (w : World), Ext (fun k => k ≠ b) w (w.setCells b o vs)
  | [], _, w => Ext.refl _ _
  | v :: r, o, w => by
    have h1 : Ext (fun k => k ≠ b) w (w.setCell ⟨b, o, none⟩ v) :=
      ⟨rfl, rfl, rfl, by simp [World.setCell], fun k hk => by simp only [World.setCell, Array.getElem?_modify]; rw [if_neg (by omega)]⟩
    exact h1.trans (setCells_ext b r (o + 1) _) (fun _ h => h)

theorem ext_alloc (w : World) (o : Obj) : Ext (fun k => k < w.heap.size) w (w.alloc o) :=
  ⟨rfl, rfl, rfl, by show _ ≤ (w.heap.push o).size; simp, fun k hk => by show (w.heap.push o)[k]? = _; rw [Array.getElem?_push, if_neg (by omega)]⟩

theorem alloc_new (w : World) (o : Obj) : (w.alloc o).heap[w.heap.size]? = some o := by show (w.heap.push o)[w.heap.size]? = _; simp

/-- A new row of cells. -/
theorem Rel.born (h : Rel w S F m g) {s : Nat} (hs : m s = none) {es : List (List AV)} {arr : Array Value} {e : TypeId} {room : Nat}
    (hr : es.length ≤ room) (ha : room * sz ≤ arr.size) (hE : ER w S m sz es (arr.toList.take (es.length * sz))) :
    Rel (w.alloc (.cells arr e)) S F (setm m s ⟨w.heap.size, 0, sz, es.length, room⟩) (upd g s (some (.cells es))) := by
  refine h.birth hs (ext_alloc w _) (Nat.le_refl _) (by show _ < (w.heap.push _).size; simp) ?_
  refine CR.mk (arr := arr) (e := e) (alloc_new w _) rfl hr (by simpa using ha) ?_
  simpa using hE.mono ((ext_alloc w _).mono h.inS) (fun _ h => h) (setm_le hs)

end
end Go.Av
