/-
  append. Conditions: none.
-/
import Derived.Test.YtiiogleijmcccaaA8
import Derived.Laws.AppendOwn
namespace Go.Av

section
variable {P : Program} {w : World} {S F : Nat → Prop} {m : Pm} {g : Heap} {sz : Nat}

theorem ER.one_cells {es : List (List AV)} {vs : List Value} (h : ER w S m sz es vs) (hsz : 0 < sz) : ∀ v ∈ vs, v.oneCell' = true := by
  intro v hv
  obtain ⟨k, hk, he⟩ := List.mem_iff_getElem.1 hv
  have hk' : k < es.length * sz := by rw [← h.len]; exact hk
  have hi : k / sz < es.length := (Nat.div_lt_iff_lt_mul hsz).2 hk'
  obtain ⟨h1, h2, h3⟩ := h.each (k / sz) es[k / sz] (by simp [hi])
  have hj : k % sz < sz := Nat.mod_lt _ hsz
  have hkk : k / sz * sz + k % sz = k := by rw [Nat.mul_comm]; exact Nat.div_add_mod k sz
  have hjl : k % sz < (es[k / sz]).length := by rw [h1]; exact hj
  refine (h3.2 (k % sz) (es[k / sz])[k % sz] v (by simp [hjl]) ?_).scal1 (List.all_eq_true.1 h2 _ (List.getElem_mem _))
  rw [List.getElem?_take, if_pos hj, List.getElem?_drop, hkk, List.getElem?_eq_getElem hk, he]

theorem elems_ok {hc : Heap} {y : AV} {yv : Value} {new : List (List AV)} {tx e' : TypeId} (hk : P.underlying tx = some (.slice e')) (hsz : 0 < sz) (h : elems hc sz y = some new) (hv : VR w S m y yv)
    (hcont : ∀ b o p, (match y with | .sl c _ _ _ => b = c | _ => False) → hc b = some o → m b = some p → CR w S m p o) :
    ∃ news, ER w S m sz new news ∧ Src P sz tx yv new.length news w := by
  cases hv <;> simp only [elems, reduceCtorEq] at h
  case nils a =>
    simp at h; subst h
    refine ⟨[], ER.nil, ?_⟩
    cases a with
    | none => exact Src.ofNil w hk 0
    | some a => exact Src.ofSlice w hk a 0 0 [] (by simp) (fun j u hj => by simp at hj) (fun u hu => by cases hu)
  case sl b off len cap p h1 h2 h3 h4 hm =>
    split at h
    · rename_i es hb
      split at h
      · rename_i hcond
        obtain ⟨hc1, hc2⟩ := hcond
        simp at h; subst h
        obtain ⟨arr, ty, k1, k2, k3, k4, k5⟩ := (hcont b _ p rfl hb hm).er
        have hE := (k5.drop off).take len
        rw [hc2] at hE k4 k5
        have hroom := Nat.mul_le_mul_right sz k3
        have hlen : ((es.drop off).take len).length = len := by simp; omega
        refine ⟨_, hE, ?_⟩
        rw [hlen, hc2]
        refine Src.ofSlice w hk _ len cap _ (by rw [hE.len, hlen]) (fun j u hj => ?_) (hE.one_cells hsz)
        rw [List.getElem?_take] at hj
        split at hj
        · rename_i hjl
          rw [List.getElem?_drop, List.getElem?_take] at hj
          split at hj
          · rw [List.getElem?_drop, getElem?_toList] at hj
            rw [Addr.add_n, cell?_cells k1, show p.off + off * sz + j = p.off + (off * sz + j) by omega]
            exact hj
          · cases hj
        · cases hj
      · cases h
    · cases h
  case ron a cap =>
    simp at h; subst h
    refine ⟨[], ER.nil, ?_⟩
    cases a with
    | none => exact Src.ofNil w hk cap
    | some a => exact Src.ofSlice w hk a 0 cap [] (by simp) (fun j u hj => by simp at hj) (fun u hu => by cases hu)
  case ro es blk o sz' cap us hS hz hcap hcc hr =>
    split at h
    · rename_i hall
      simp at h; subst h
      have key : ∀ i j c, getc es i j = some c → i < es.length ∧ j < sz ∧ sz' = sz := by
        intro i j c hg
        unfold getc at hg
        cases he : es[i]? with
        | none => simp [he] at hg
        | some e =>
          simp [he] at hg
          have h1 := hall e (List.mem_of_getElem? he)
          exact ⟨(List.getElem?_eq_some_iff.1 he).1, by rw [← h1]; exact (List.getElem?_eq_some_iff.1 hg).1, by rw [← h1]; exact (hz i e he).1.symm⟩
      have hE : ER w S m sz es ((List.range (es.length * sz)).map fun k => us (k / sz) (k % sz)) := by
        refine ⟨by simp, fun i e he => ?_⟩
        have h1 := hall e (List.mem_of_getElem? he)
        have hi := (List.getElem?_eq_some_iff.1 he).1
        have hseg := mul_lt_seg (sz := sz) hi
        refine ⟨h1, (hz i e he).2, by simp [h1]; omega, fun j c v hc hv => ?_⟩
        have hj : j < sz := by rw [← h1]; exact (List.getElem?_eq_some_iff.1 hc).1
        rw [List.getElem?_take, if_pos hj, List.getElem?_drop, List.getElem?_map, List.getElem?_range (by omega)] at hv
        simp only [Option.map_some, Option.some.injEq] at hv
        have hd : (i * sz + j) / sz = i := by rw [Nat.add_comm, Nat.add_mul_div_right _ _ hsz, Nat.div_eq_of_lt hj, Nat.zero_add]
        have hmo : (i * sz + j) % sz = j := by rw [Nat.add_comm, Nat.add_mul_mod_self_right, Nat.mod_eq_of_lt hj]
        rw [hd, hmo] at hv
        subst hv
        exact (hr i j c (by simp [getc, he, hc])).up
      refine ⟨_, hE, ?_⟩
      refine Src.ofSlice w hk _ es.length cap _ hE.len (fun k u hku => ?_) (hE.one_cells hsz)
      have hkl : k < es.length * sz := by
        have := (List.getElem?_eq_some_iff.1 hku).1
        simpa using this
      rw [List.getElem?_map, List.getElem?_range hkl] at hku
      simp only [Option.map_some, Option.some.injEq] at hku
      subst hku
      have hi : k / sz < es.length := (Nat.div_lt_iff_lt_mul hsz).2 hkl
      have hj : k % sz < sz := Nat.mod_lt _ hsz
      have h1 := hall es[k / sz] (List.getElem_mem _)
      have hjl : k % sz < (es[k / sz]).length := by rw [h1]; exact hj
      have hgc : getc es (k / sz) (k % sz) = some (es[k / sz])[k % sz] := by simp [getc, hi, hjl]
      have := hcc _ _ _ hgc
      have hs := (key _ _ _ hgc).2.2
      subst hs
      rw [Addr.add_n]
      have hkk : k / sz' * sz' + k % sz' = k := by rw [Nat.mul_comm]; exact Nat.div_add_mod k sz'
      rw [← this]
      congr 2
      omega
    · cases h

/-- The heap where a slot's block goes on in a new slot. -/
theorem Rel.goOn (h : Rel w S F m g) {b s : Nat} {o : AO} {p p' : Pl} (hg : g b = some o) (hm : m b = some p) (hs : m s = none) (hb : p'.blk = p.blk) {w' : World}
    (he : Ext (fun k => k ≠ p.blk) w w') {o' : AO} (hc : CR w' S (setm m s p') p' o') : Rel w' S F (setm m s p') (upd (upd g b none) s (some o')) := by
  have ha := h.apart b o p hg hm
  have hS : Ext S w w' := he.mono fun k hk e => ha.1 (e ▸ hk)
  have old : ∀ c o₁ q, c ≠ s → upd (upd g b none) s (some o') c = some o₁ → setm m s p' c = some q → g c = some o₁ ∧ m c = some q ∧ c ≠ b := by
    intro c o₁ q hcs hgc hq
    rw [upd_ne hcs] at hgc
    by_cases hcb : c = b
    · subst hcb; rw [upd_same] at hgc; cases hgc
    · rw [upd_ne hcb] at hgc; rw [setm_ne hcs] at hq; exact ⟨hgc, hq, hcb⟩
  have neq : ∀ c o₁ q, c ≠ s → upd (upd g b none) s (some o') c = some o₁ → setm m s p' c = some q → q.blk ≠ p.blk := by
    intro c o₁ q hcs hgc hq
    obtain ⟨k1, k2, k3⟩ := old c o₁ q hcs hgc hq
    exact h.disj _ _ _ _ _ _ k1 hg k2 hm k3
  refine ⟨fun c o₁ q hgc hq => ?_, fun c d o₁ o₂ p₁ p₂ g₁ g₂ q₁ q₂ hne => ?_, fun c o₁ q hgc hq => ?_,
    fun k hk => Nat.lt_of_lt_of_le (h.inS k hk) he.size, fun k hk => Nat.lt_of_lt_of_le (h.inF k hk) he.size, fun c q hq => ?_⟩
  · by_cases hcs : c = s
    · subst hcs; rw [upd_same] at hgc; cases hgc; rw [setm_same] at hq; cases hq; exact hc
    · obtain ⟨k1, k2, k3⟩ := old c o₁ q hcs hgc hq
      exact (h.content c o₁ q k1 k2).mono hS (fun _ h => h) (setm_le hs) (he.same _ (neq c o₁ q hcs hgc hq))
  · by_cases h1 : c = s
    · by_cases h2 : d = s
      · exact absurd (h1.trans h2.symm) hne
      · subst h1; rw [setm_same] at q₁; cases q₁; rw [hb]; exact (neq d o₂ p₂ h2 g₂ q₂).symm
    · by_cases h2 : d = s
      · subst h2; rw [setm_same] at q₂; cases q₂; rw [hb]; exact neq c o₁ p₁ h1 g₁ q₁
      · obtain ⟨k1, k2, _⟩ := old c o₁ p₁ h1 g₁ q₁
        obtain ⟨l1, l2, _⟩ := old d o₂ p₂ h2 g₂ q₂
        exact h.disj _ _ _ _ _ _ k1 l1 k2 l2 hne
  · by_cases hcs : c = s
    · subst hcs; rw [setm_same] at hq; cases hq; rw [hb]; exact ha
    · obtain ⟨k1, k2, _⟩ := old c o₁ q hcs hgc hq
      exact h.apart _ _ _ k1 k2
  · by_cases hcs : c = s
    · subst hcs; rw [setm_same] at hq; cases hq; rw [hb]; exact Nat.lt_of_lt_of_le (h.inm b p hm) he.size
    · rw [setm_ne hcs] at hq; exact Nat.lt_of_lt_of_le (h.inm c q hq) he.size

theorem ZC.size {ez : List AV} {z : Value} (h : ZC ez z) : z.cells.size = ez.length := by
  have := (h default (fun _ => False) (fun _ => none)).1
  simpa using this

theorem size_zeroCells (z : Array Value) (n : Nat) : (Builtin.zeroCells z n).size = n * z.size := by simp [Builtin.zeroCells]

theorem ext_drew (w : World) : Ext (fun k => k < w.heap.size) w w.drew := ⟨rfl, rfl, rfl, Nat.le_refl _, fun _ _ => rfl⟩

theorem Rel.drew (h : Rel w S F m g) : Rel w.drew S F m g :=
  ⟨fun b o p hg hm => (h.content b o p hg hm).mono ((ext_drew w).mono h.inS) (fun _ h => h) (fun _ _ h => h) rfl, h.disj, h.apart, h.inS, h.inF, h.inm⟩

/-- Onto nothing. -/
theorem append_nil_ok {t tx ty e : TypeId} {i : TypeInfo} {z : Value} {ez : List AV} (ht : P.underlying t = some (.slice e)) (hi : P.info? e = some i) (hisz : i.size = sz) (hz : i.zero = some z) (hzc : ZC ez z)
    (hzl : ez.length = sz) {yv : Value} {new : List (List AV)} {news : List Value} (hE : ER w S m sz new news) (hsrc : Src P sz tx yv new.length news w) (hb : new.length * i.bytes ≤ 140737488355328) (hb0 : 0 < i.bytes)
    (hne : new ≠ []) (a : Option Addr) {s : Nat} (hs : m s = none) (hr : Rel w S F m g) :
    ∃ v' w' m', (Builtin.append_ #[t, tx] ty #[.slice a 0 0, yv]).run P w = .ok v' w' ∧ Ext (fun k => S k ∨ F k) w w' ∧ (∀ b q, m b = some q → m' b = some q) ∧ (∀ b, b ≠ s → m' b = m b) ∧
      VR w' S m' (.sl s 0 new.length sz) v' ∧ Rel w' S F m' (upd g s (some (.cells new))) := by
  subst hisz
  have hn : 0 < new.length := List.length_pos_iff.2 hne
  have hold : (Builtin.firstCells i.size 0 (.slice a 0 0)).run P w.drew = .ok ([] : List Value).toArray w.drew := by
    cases a with
    | none => exact run_firstCells_none w.drew i.size 0 0 0
    | some a => exact run_firstCells_some w.drew i.size 0 a 0 0 [] (by simp) (fun j v hj => by simp at hj)
  have h63 : ((0 + new.length : Nat) : Int) ≤ 9223372036854775807 := by
    have : new.length * 1 ≤ new.length * i.bytes := Nat.mul_le_mul_left _ hb0
    omega
  have hrun := run_append_grow_src w t tx ty e i z ht hi hz a 0 0 [] hold yv new.length news hsrc (by omega) h63 (growslice_fits (by omega) (by simpa using hb))
  simp only [Nat.zero_add, List.nil_append] at hrun
  have hge := grownCap_ge w new.length 0 e
  generalize hcap : grownCap w new.length 0 e = cap at *
  have hzs : z.cells.size = i.size := by rw [hzc.size, hzl]
  have hborn := hr.drew.born hs (es := new) (arr := news.toArray ++ Builtin.zeroCells z.cells (cap - new.length)) (e := e) (sz := i.size) (room := cap) hge
    (by
      have h1 := hE.len
      have h2 : cap * i.size = new.length * i.size + (cap - new.length) * i.size := by rw [← Nat.add_mul]; congr 1; omega
      simp only [Array.size_append, List.size_toArray, size_zeroCells, hzs, h1]
      omega)
    (by
      have h1 := hE.len
      simp only [Array.toList_append, ← h1]
      rw [List.take_append_of_le_length (by simp), List.take_of_length_le (by simp)]
      exact hE.mono ((ext_drew w).mono hr.inS) (fun _ h => h) (fun _ _ h => h))
  have hext : Ext (fun k => S k ∨ F k) w (w.drew.alloc (.cells (news.toArray ++ Builtin.zeroCells z.cells (cap - new.length)) e)) :=
    ((ext_drew w).trans (ext_alloc w.drew _) (fun _ h => h)).old hr
  refine ⟨_, _, _, hrun, hext, setm_le hs, fun b hb => setm_ne hb, ?_, hborn⟩
  have := VR.sl (w := w.drew.alloc (.cells (news.toArray ++ Builtin.zeroCells z.cells (cap - new.length)) e)) (S := S) s 0 new.length cap ⟨w.heap.size, 0, i.size, new.length, cap⟩ (setm_same (m := m)) (by simp; exact hge) (by simp) hge (by simp)
  simpa using this

theorem append_zero_ok {t tx ty e : TypeId} {i : TypeInfo} (ht : P.underlying t = some (.slice e)) (hi : P.info? e = some i) {yv : Value} (hsrc : Src P i.size tx yv 0 [] w) (a : Option Addr) :
    (Builtin.append_ #[t, tx] ty #[.slice a 0 0, yv]).run P w = .ok (.slice a 0 0) w := by
  rcases hsrc.kind with ⟨e', hk⟩ | hk <;> cases a <;> simp [Builtin.append_, run_underlying ht, run_underlying hk, sizeOf, typeInfo, hi, hsrc.len, hsrc.cells, storeCells]

/-- Onto a live block's elements. -/
theorem append_sl_ok {t tx ty e : TypeId} {i : TypeInfo} {z : Value} {ez : List AV} (ht : P.underlying t = some (.slice e)) (hi : P.info? e = some i) (hisz : i.size = sz) (hz : i.zero = some z) (hzc : ZC ez z)
    (hzl : ez.length = sz) {yv : Value} {new : List (List AV)} {news : List Value} (hE : ER w S m sz new news) (hsrc : Src P sz tx yv new.length news w)
    {b off len : Nat} {xv : Value} (hx : VR w S m (.sl b off len sz) xv) {es : List (List AV)} (hgb : g b = some (.cells es)) (hle : off + len ≤ es.length)
    (hb : (len + new.length) * i.bytes ≤ 140737488355328) (hb0 : 0 < i.bytes) {s : Nat} (hs : m s = none) (hr : Rel w S F m g) :
    (off + len + new.length ≤ es.length → ∃ v' w', (Builtin.append_ #[t, tx] ty #[xv, yv]).run P w = .ok v' w' ∧ Ext (fun k => S k ∨ F k) w w' ∧
      VR w' S m (.sl b off (len + new.length) sz) v' ∧ Rel w' S F m (upd g b (some (.cells (es.take (off + len) ++ new ++ es.drop (off + len + new.length)))))) ∧
    (off + len = es.length → ∃ v' w' m', (Builtin.append_ #[t, tx] ty #[xv, yv]).run P w = .ok v' w' ∧ Ext (fun k => S k ∨ F k) w w' ∧ (∀ b q, m b = some q → m' b = some q) ∧ (∀ b, b ≠ s → m' b = m b) ∧
      VR w' S m' (.sl s 0 (len + new.length) sz) v' ∧ Rel w' S F m' (upd (upd g b none) s (some (.cells (es.drop off ++ new))))) := by
  subst hisz
  generalize hav : AV.sl b off len i.size = av at hx
  cases hx <;> simp only [reduceCtorEq, AV.sl.injEq] at hav
  case sl b' off' len' cap p h1 h2 h3 h4 hm =>
  obtain ⟨rfl, rfl, rfl, hps⟩ := hav
  obtain ⟨arr, ae, k1, k2, k3, k4, k5⟩ := (hr.content b _ p hgb hm).er
  have hap := hr.apart b _ p hgb hm
  have hroom := Nat.mul_le_mul_right p.sz k3
  have hcapm := Nat.mul_le_mul_right p.sz h2
  rw [Nat.add_mul] at hcapm
  -- the store in place
  have inplace : len + new.length ≤ cap → (Builtin.append_ #[t, tx] ty #[.slice (some ⟨p.blk, p.off + off * p.sz, none⟩) len cap, yv]).run P w =
      .ok (.slice (some ⟨p.blk, p.off + off * p.sz, none⟩) (len + new.length) cap) (w.setCells p.blk (p.off + off * p.sz + len * p.sz) news) ∧
      p.off + off * p.sz + len * p.sz + news.length ≤ arr.size := by
    intro hc
    have hcm := Nat.mul_le_mul_right p.sz hc
    rw [Nat.add_mul] at hcm
    have hnl := hE.len
    rw [hps] at hnl
    have hfit : p.off + off * p.sz + len * p.sz + news.length ≤ arr.size := by omega
    refine ⟨?_, hfit⟩
    have := run_append_room_src w t tx ty e i ht hi p.blk (p.off + off * p.sz) len cap yv new.length news hsrc hc (fun j hj => by
      rw [hps, cell?_cells k1]
      have : p.off + off * p.sz + len * p.sz + j < arr.size := by omega
      simp [this]) (fun j hj => by simp [World.frozen?, k1])
    rw [hps] at this
    exact this
  constructor
  · intro hfull
    have hc : len + new.length ≤ cap := by omega
    obtain ⟨hrun, hfit⟩ := inplace hc
    have hext := setCells_ext p.blk news (p.off + off * p.sz + len * p.sz) w
    have hext' : Ext (fun k => S k ∨ F k) w (w.setCells p.blk (p.off + off * p.sz + len * p.sz) news) :=
      hext.mono fun k hk e => by subst e; exact hk.elim hap.1 hap.2
    obtain ⟨arr', a1, a2⟩ := setCells_heap p.blk news (p.off + off * p.sz + len * p.sz) w arr ae (0, 0) k1 hfit
    refine ⟨_, _, hrun, hext', ?_, ?_⟩
    · rw [hps]
      exact .sl b off (len + new.length) cap p hm h1 h2 hc (by omega)
    · refine hr.write hgb hm hext (CR.mk a1 (by simp; omega) k3 ?_ ?_)
      · have := congrArg List.length a2
        simp at this; omega
      · have hmono : ∀ {a : List (List AV)} {x : List Value}, ER w S m p.sz a x → ER (w.setCells p.blk (p.off + off * p.sz + len * p.sz) news) S m p.sz a x := fun hh =>
          hh.mono (hext.mono fun k hk e => hap.1 (e ▸ hk)) (fun _ h => h) (fun _ _ h => h)
        have hE' : ER w S m p.sz new news := by rw [← hps]; exact hE
        have hER := ((hmono (k5.take (off + len))).append (hmono hE')).append (hmono (k5.drop (off + len + new.length)))
        have hnl := hE'.len
        have key : (arr'.toList.drop p.off).take (p.ext * p.sz) = ((arr.toList.drop p.off).take (p.ext * p.sz)).take ((off + len) * p.sz) ++ news ++ ((arr.toList.drop p.off).take (p.ext * p.sz)).drop ((off + len + new.length) * p.sz) := by
          have hseg : (off + len) * p.sz + news.length ≤ p.ext * p.sz := by
            rw [hnl, ← Nat.add_mul]; exact Nat.mul_le_mul_right _ (by omega)
          have hsk := seg_key arr.toList news p.off (p.ext * p.sz) 0 (p.ext * p.sz) ((off + len) * p.sz) (by omega) hseg (by simp; omega)
          rw [a2]
          have e1 : p.off + off * p.sz + len * p.sz = p.off + 0 + (off + len) * p.sz := by rw [Nat.add_mul]; omega
          have e2 : (off + len + new.length) * p.sz = (off + len) * p.sz + news.length := by rw [hnl, Nat.add_mul (off + len)]
          rw [e1, e2, hsk]
          have e3 : ((arr.toList.drop p.off).take (p.ext * p.sz)).length = p.ext * p.sz := by simp; omega
          generalize (arr.toList.drop p.off).take (p.ext * p.sz) = M at *
          simp [List.take_of_length_le (by omega : M.length ≤ p.ext * p.sz), List.drop_of_length_le (by omega : M.length ≤ 0 + p.ext * p.sz)]
          omega
        rw [key]
        exact hER
  · intro hend
    by_cases hc : len + new.length ≤ cap
    · obtain ⟨hrun, hfit⟩ := inplace hc
      have hext := setCells_ext p.blk news (p.off + off * p.sz + len * p.sz) w
      have hext' : Ext (fun k => S k ∨ F k) w (w.setCells p.blk (p.off + off * p.sz + len * p.sz) news) :=
        hext.mono fun k hk e => by subst e; exact hk.elim hap.1 hap.2
      obtain ⟨arr', a1, a2⟩ := setCells_heap p.blk news (p.off + off * p.sz + len * p.sz) w arr ae (0, 0) k1 hfit
      have hE' : ER w S m p.sz new news := by rw [← hps]; exact hE
      have hnl := hE'.len
      have hgo := hr.goOn (p' := ⟨p.blk, p.off + off * p.sz, p.sz, len + new.length, cap⟩) hgb hm hs rfl hext (o' := .cells (es.drop off ++ new)) (by
        refine CR.mk (arr := arr') (e := ae) a1 (by simp; omega) hc ?_ ?_
        · have := congrArg List.length a2
          simp at this
          simp only []
          omega
        · have hmono : ∀ {a : List (List AV)} {x : List Value}, ER w S m p.sz a x → ER (w.setCells p.blk (p.off + off * p.sz + len * p.sz) news) S (setm m s ⟨p.blk, p.off + off * p.sz, p.sz, len + new.length, cap⟩) p.sz a x := fun hh =>
            hh.mono (hext.mono fun k hk e => hap.1 (e ▸ hk)) (fun _ h => h) (setm_le hs)
          have hER := (hmono (k5.drop off)).append (hmono hE')
          have key : (arr'.toList.drop (p.off + off * p.sz)).take ((len + new.length) * p.sz) = ((arr.toList.drop p.off).take (p.ext * p.sz)).drop (off * p.sz) ++ news := by
            have hext2 : p.ext = off + len := by omega
            have e1 : (len + new.length) * p.sz = len * p.sz + news.length := by rw [hnl, Nat.add_mul]
            rw [a2, e1, hext2, Nat.add_mul]
            generalize hL : arr.toList = L at *
            have hLs : L.length = arr.size := by rw [← hL]; simp
            have e2 : L.take (p.off + off * p.sz + len * p.sz) = L.take (p.off + off * p.sz) ++ (L.drop (p.off + off * p.sz)).take (len * p.sz) := by rw [← List.take_add]
            have e3 : (L.take (p.off + off * p.sz)).length = p.off + off * p.sz := by simp; omega
            have e4 : ((L.drop (p.off + off * p.sz)).take (len * p.sz)).length = len * p.sz := by simp; omega
            rw [List.drop_take, List.drop_drop, Nat.add_sub_cancel_left, e2]
            generalize (L.drop (p.off + off * p.sz)).take (len * p.sz) = M at *
            generalize L.take (p.off + off * p.sz) = A at *
            rw [List.append_assoc, List.append_assoc, List.drop_append_of_le_length (by omega), List.drop_of_length_le (by omega), List.nil_append, ← List.append_assoc,
              List.take_append_of_le_length (by simp; omega), List.take_of_length_le (by simp; omega)]
          simp only []
          rw [key]
          exact hER)
      refine ⟨_, _, _, hrun, hext', setm_le hs, fun c hcs => setm_ne hcs, ?_, hgo⟩
      rw [hps]
      have := VR.sl (w := w.setCells p.blk (p.off + off * p.sz + len * p.sz) news) (S := S) s 0 (len + new.length) cap ⟨p.blk, p.off + off * p.sz, p.sz, len + new.length, cap⟩ (setm_same (m := m)) (by simp; omega) (by simp) hc (by simp)
      simpa using this
    · have hseg := (k5.drop off)
      have hex : p.ext = off + len := by omega
      have holdl : (((arr.toList.drop p.off).take (p.ext * p.sz)).drop (off * p.sz)).length = len * i.size := by
        rw [hps, hex, Nat.add_mul]; simp
        have := Nat.mul_le_mul_right p.sz k3
        rw [hex, Nat.add_mul] at this
        omega
      generalize hold : ((arr.toList.drop p.off).take (p.ext * p.sz)).drop (off * p.sz) = olds at *
      have hat : ∀ j v, olds[j]? = some v → w.cell? ((⟨p.blk, p.off + off * p.sz, none⟩ : Addr).add j) = some v := by
        intro j v hj
        rw [← hold, List.getElem?_drop, List.getElem?_take] at hj
        split at hj
        · rw [List.getElem?_drop, getElem?_toList] at hj
          rw [Addr.add_n, cell?_cells k1, show p.off + off * p.sz + j = p.off + (off * p.sz + j) by omega]
          exact hj
        · cases hj
      have hfirst : (Builtin.firstCells i.size len (.slice (some ⟨p.blk, p.off + off * p.sz, none⟩) len cap)).run P w.drew = .ok olds.toArray w.drew :=
        run_firstCells_some w.drew i.size len _ len cap olds holdl (fun j v hj => by have := hat j v hj; simpa using this)
      have h63 : ((len + new.length : Nat) : Int) ≤ 9223372036854775807 := by
        have : (len + new.length) * 1 ≤ (len + new.length) * i.bytes := Nat.mul_le_mul_left _ hb0
        omega
      have hrun := run_append_grow_src w t tx ty e i z ht hi hz (some ⟨p.blk, p.off + off * p.sz, none⟩) len cap olds hfirst yv new.length news hsrc (by omega) h63 (growslice_fits (by omega) hb)
      have hge := grownCap_ge w (len + new.length) cap e
      generalize hgc : grownCap w (len + new.length) cap e = gc at *
      have hzs : z.cells.size = i.size := by rw [hzc.size, hzl]
      have hE2 : ER w S m i.size (es.drop off ++ new) (olds ++ news) := by
        refine ER.append ?_ hE
        rw [hps]; exact hseg
      have hdl : (es.drop off ++ new).length = len + new.length := by simp; omega
      have hborn := (hr.kill b).drew.born hs (es := es.drop off ++ new) (arr := (olds ++ news).toArray ++ Builtin.zeroCells z.cells (gc - (len + new.length))) (e := e) (sz := i.size) (room := gc) (by omega)
        (by
          have h1 := hE2.len
          rw [hdl] at h1
          have h2 : gc * i.size = (len + new.length) * i.size + (gc - (len + new.length)) * i.size := by rw [← Nat.add_mul]; congr 1; omega
          simp only [Array.size_append, List.size_toArray, size_zeroCells, hzs, h1]
          omega)
        (by
          have h1 := hE2.len
          simp only [Array.toList_append, ← h1]
          rw [List.take_append_of_le_length (by simp), List.take_of_length_le (by simp)]
          exact hE2.mono ((ext_drew w).mono hr.inS) (fun _ h => h) (fun _ _ h => h))
      have hext : Ext (fun k => S k ∨ F k) w (w.drew.alloc (.cells ((olds ++ news).toArray ++ Builtin.zeroCells z.cells (gc - (len + new.length))) e)) :=
        ((ext_drew w).trans (ext_alloc w.drew _) (fun _ h => h)).old hr
      refine ⟨_, _, _, hrun, hext, setm_le hs, fun c hcs => setm_ne hcs, ?_, hborn⟩
      have := VR.sl (w := w.drew.alloc (.cells ((olds ++ news).toArray ++ Builtin.zeroCells z.cells (gc - (len + new.length))) e)) (S := S) s 0 (len + new.length) gc ⟨w.heap.size, 0, i.size, (es.drop off ++ new).length, gc⟩ (setm_same (m := m)) (by simp; omega) (by simp) hge (by simp; omega)
      simpa using this

end
end Go.Av
