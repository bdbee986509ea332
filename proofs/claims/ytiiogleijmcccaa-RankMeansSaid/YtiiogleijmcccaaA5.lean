/-
  Operations that read, make and write memory: what they do to the model's world. Conditions: none.
-/
import Derived.Test.YtiiogleijmcccaaA4
namespace Go.Av

def setm (m : Pm) (s : Nat) (p : Pl) : Pm := fun b => if b = s then some p else m b

theorem setm_same {m : Pm} {s : Nat} {p : Pl} : setm m s p s = some p := by simp [setm]
theorem setm_ne {m : Pm} {s b : Nat} {p : Pl} (h : b ≠ s) : setm m s p b = m b := by simp [setm, h]
theorem setm_le {m : Pm} {s : Nat} {p : Pl} (hs : m s = none) : ∀ b q, m b = some q → setm m s p b = some q := by
  intro b q h
  by_cases hb : b = s
  · subst hb; rw [hs] at h; cases h
  · rw [setm_ne hb]; exact h

theorem upd_same {h : Heap} {b : Nat} {o : Option AO} : upd h b o b = o := by simp [upd]
theorem upd_ne {h : Heap} {b c : Nat} {o : Option AO} (hc : c ≠ b) : upd h b o c = h c := by simp [upd, hc]

section
variable {P : Program} {w : World} {S F : Nat → Prop} {m : Pm} {g : Heap}

/-- A new block. -/
theorem Rel.birth (h : Rel w S F m g) {s : Nat} (hs : m s = none) {w' : World} (he : Ext (fun k => k < w.heap.size) w w') {p : Pl}
    (hp : w.heap.size ≤ p.blk) (hp' : p.blk < w'.heap.size) {o : AO} (hc : CR w' S (setm m s p) p o) : Rel w' S F (setm m s p) (upd g s (some o)) := by
  have hS : Ext S w w' := he.mono h.inS
  have old : ∀ b q, b ≠ s → setm m s p b = some q → m b = some q := fun b q hb hq => by rwa [setm_ne hb] at hq
  refine ⟨fun b o' q hg hq => ?_, fun b₁ b₂ o₁ o₂ p₁ p₂ g₁ g₂ q₁ q₂ hne => ?_, fun b o' q hg hq => ?_, fun k hk => ?_, fun k hk => ?_, fun b q hq => ?_⟩
  · by_cases hb : b = s
    · subst hb; rw [upd_same] at hg; cases hg; rw [setm_same] at hq; cases hq; exact hc
    · rw [upd_ne hb] at hg
      have hm := old b q hb hq
      exact (h.content b o' q hg hm).mono hS (fun _ h => h) (setm_le hs) (he.same _ (h.inm b q hm))
  · by_cases h1 : b₁ = s
    · by_cases h2 : b₂ = s
      · exact absurd (h1.trans h2.symm) hne
      · subst h1; rw [setm_same] at q₁; cases q₁
        have := h.inm _ _ (old _ _ h2 q₂)
        intro e; omega
    · have k1 := h.inm _ _ (old _ _ h1 q₁)
      by_cases h2 : b₂ = s
      · subst h2; rw [setm_same] at q₂; cases q₂; intro e; omega
      · rw [upd_ne h1] at g₁; rw [upd_ne h2] at g₂
        exact h.disj _ _ _ _ _ _ g₁ g₂ (old _ _ h1 q₁) (old _ _ h2 q₂) hne
  · by_cases hb : b = s
    · subst hb; rw [setm_same] at hq; cases hq
      exact ⟨fun hk => (by have := h.inS _ hk; omega), fun hk => (by have := h.inF _ hk; omega)⟩
    · rw [upd_ne hb] at hg
      exact h.apart _ _ _ hg (old _ _ hb hq)
  · exact Nat.lt_of_lt_of_le (h.inS k hk) he.size
  · exact Nat.lt_of_lt_of_le (h.inF k hk) he.size
  · by_cases hb : b = s
    · subst hb; rw [setm_same] at hq; cases hq; exact hp'
    · exact Nat.lt_of_lt_of_le (h.inm b q (old _ _ hb hq)) he.size

/-- A block is given up. -/
theorem Rel.kill (h : Rel w S F m g) (b : Nat) : Rel w S F m (upd g b none) := by
  have old : ∀ c o, upd g b none c = some o → g c = some o := fun c o hc => by
    by_cases e : c = b
    · subst e; rw [upd_same] at hc; cases hc
    · rwa [upd_ne e] at hc
  exact ⟨fun c o p hg hm => h.content c o p (old _ _ hg) hm, fun c d o₁ o₂ p₁ p₂ g₁ g₂ => h.disj c d o₁ o₂ p₁ p₂ (old _ _ g₁) (old _ _ g₂),
    fun c o p hg hm => h.apart c o p (old _ _ hg) hm, h.inS, h.inF, h.inm⟩

/-- A heap that says less. -/
theorem Rel.less (h : Rel w S F m g) {g' : Heap} (hg : ∀ b o, g' b = some o → g b = some o) : Rel w S F m g' :=
  ⟨fun c o p hc hm => h.content c o p (hg _ _ hc) hm, fun c d o₁ o₂ p₁ p₂ g₁ g₂ => h.disj c d o₁ o₂ p₁ p₂ (hg _ _ g₁) (hg _ _ g₂),
    fun c o p hc hm => h.apart c o p (hg _ _ hc) hm, h.inS, h.inF, h.inm⟩

/-- A block is written. -/
theorem Rel.write (h : Rel w S F m g) {b : Nat} {o : AO} {p : Pl} (hg : g b = some o) (hm : m b = some p) {w' : World}
    (he : Ext (fun k => k ≠ p.blk) w w') {o' : AO} (hc : CR w' S m p o') : Rel w' S F m (upd g b (some o')) := by
  have ha := h.apart b o p hg hm
  have hS : Ext S w w' := he.mono fun k hk e => ha.1 (e ▸ hk)
  refine ⟨fun c o₁ q hc' hq => ?_, fun b₁ b₂ o₁ o₂ p₁ p₂ g₁ g₂ q₁ q₂ hne => ?_, fun c o₁ q hc' hq => ?_,
    fun k hk => Nat.lt_of_lt_of_le (h.inS k hk) he.size, fun k hk => Nat.lt_of_lt_of_le (h.inF k hk) he.size, fun c q hq => Nat.lt_of_lt_of_le (h.inm c q hq) he.size⟩
  · by_cases e : c = b
    · subst e; rw [upd_same] at hc'; cases hc'; rw [hm] at hq; cases hq; exact hc
    · rw [upd_ne e] at hc'
      refine (h.content c o₁ q hc' hq).mono hS (fun _ h => h) (fun _ _ h => h) (he.same _ ?_)
      exact h.disj _ _ _ _ _ _ hc' hg hq hm e
  · have live : ∀ c o₁, upd g b (some o') c = some o₁ → ∃ o₂, g c = some o₂ := fun c o₁ hc' => by
      by_cases e : c = b
      · exact ⟨o, e ▸ hg⟩
      · rw [upd_ne e] at hc'; exact ⟨_, hc'⟩
    obtain ⟨_, k₁⟩ := live _ _ g₁
    obtain ⟨_, k₂⟩ := live _ _ g₂
    exact h.disj _ _ _ _ _ _ k₁ k₂ q₁ q₂ hne
  · by_cases e : c = b
    · subst e; rw [hm] at hq; cases hq; exact ha
    · rw [upd_ne e] at hc'; exact h.apart _ _ _ hc' hq

theorem Addr.add_n (b o n : Nat) : (⟨b, o, none⟩ : Addr).add n = ⟨b, o + n, none⟩ := Addr.add_mid b o n

theorem getElem?_toList {α : Type} (a : Array α) (i : Nat) : a.toList[i]? = a[i]? := by simp

/-- Cells that lie at an address. -/
def At (w : World) (b o : Nat) (vs : List Value) : Prop := ∀ (j : Nat) (u : Value), vs[j]? = some u → w.cell? ⟨b, o + j, none⟩ = some u

theorem cell?_cells {arr : Array Value} {e : TypeId} {fz : Nat × Nat} {b o : Nat} (h : w.heap[b]? = some (.cells arr e fz)) : w.cell? ⟨b, o, none⟩ = arr[o]? := by
  simp [World.cell?, h]

/-- The cells of one element of a live block, from 'off' on. -/
theorem CR.seg {p : Pl} {es : List (List AV)} (h : CR w S m p (.cells es)) {i : Nat} {e : List AV} (he : es[i]? = some e) (off sz : Nat) (hl : off + sz ≤ e.length) :
    ∃ vs, LR w S m ((e.drop off).take sz) vs ∧ At w p.blk (p.off + i * p.sz + off) vs := by
  obtain ⟨arr, ty, h1, h2, h2', h3, h4, h5⟩ := h
  refine ⟨(List.range sz).map fun j => (arr[p.off + i * p.sz + off + j]?).getD undef, ⟨by simp; omega, fun j c v hc hv => ?_⟩, fun j u hu => ?_⟩
  · rw [List.getElem?_take] at hc
    split at hc
    · rename_i hj
      rw [List.getElem?_drop] at hc
      simp only [List.getElem?_map, List.getElem?_range hj, Option.map_some, Option.some.injEq] at hv
      obtain ⟨v', hv', hr⟩ := h5 i (off + j) c (by simp [getc, he, hc])
      rw [show p.off + i * p.sz + off + j = p.off + i * p.sz + (off + j) by omega, hv'] at hv
      simp at hv; subst hv; exact hr
    · cases hc
  · by_cases hj : j < sz
    · simp only [List.getElem?_map, List.getElem?_range hj, Option.map_some, Option.some.injEq] at hu
      have hlt : off + j < e.length := by omega
      obtain ⟨v', hv', hr⟩ := h5 i (off + j) e[off + j] (by simp [getc, he, hlt])
      rw [show p.off + i * p.sz + off + j = p.off + i * p.sz + (off + j) by omega, hv'] at hu
      rw [cell?_cells h1, show p.off + i * p.sz + off + j = p.off + i * p.sz + (off + j) by omega, hv']
      simpa using hu
    · have : sz ≤ j := by omega
      simp [this] at hu

/-- What a read sees, in the world. -/
theorem rdCells_ok {hc : Heap} {sz : Nat} {a : AV} {x : Value} {cs : List AV} (h : rdCells hc sz a = some cs) (hv : VR w S m a x)
    (hcont : ∀ b o p, (match a with | .ptr c _ _ => b = c | _ => False) → hc b = some o → m b = some p → CR w S m p o) :
    ∃ b o vs, x = .pointer (some ⟨b, o, none⟩) ∧ LR w S m cs vs ∧ At w b o vs ∧ vs.length = sz := by
  cases hv <;> simp only [rdCells, reduceCtorEq] at h
  case ptr b i off p hm =>
    split at h
    · rename_i es hb
      split at h
      · rename_i e he
        split at h
        · rename_i hl
          simp at h; subst h
          obtain ⟨vs, h1, h2⟩ := (hcont b _ p rfl hb hm).seg he off sz hl
          exact ⟨_, _, vs, rfl, h1, h2, by rw [h1.1]; simp; omega⟩
        · cases h
      · cases h
    · cases h
  case rp cells off blk o us hS hc' hr =>
    split at h
    · rename_i hl
      simp at h; subst h
      refine ⟨blk, o + off, (List.range sz).map fun j => us (off + j), rfl, ⟨by simp; omega, fun j c v hc hv => ?_⟩, fun j u hu => ?_, by simp⟩
      · rw [List.getElem?_take] at hc
        split at hc
        · rename_i hj
          rw [List.getElem?_drop] at hc
          simp only [List.getElem?_map, List.getElem?_range hj, Option.map_some, Option.some.injEq] at hv
          subst hv
          exact (hr _ _ hc).up
        · cases hc
      · by_cases hj : j < sz
        · simp only [List.getElem?_map, List.getElem?_range hj, Option.map_some, Option.some.injEq] at hu
          subst hu
          have hlt : off + j < cells.length := by omega
          have := hc' (off + j) cells[off + j] (by simp [hlt])
          rw [show o + off + j = o + (off + j) by omega]; exact this
        · have : sz ≤ j := by omega
          simp [this] at hu
    · cases h

theorem TyOK.run_size {t : TypeId} {ti : TI} (h : TyOK P t ti) (w : World) : (sizeOf t).run P w = .ok ti.size w := by
  obtain ⟨i, z, h1, h2, _⟩ := h.info
  simp [sizeOf, typeInfo, h1, h2]

theorem run_isAgg {t : TypeId} {d : TypeDesc} (h : P.underlying t = some d) (w : World) : (isAgg t).run P w = .ok d.isRow w := by
  unfold isAgg
  rw [Sem.run_bind, run_underlying h w]
  cases d <;> rfl

theorem loadVar_ok {t : TypeId} {ti : TI} (hT : TyOK P t ti) {b o : Nat} {vs : List Value} {cs : List AV} {v : AV} (hl : LR w S m cs vs) (ha : At w b o vs)
    (hz : vs.length = ti.size) (hv : ofCells ti.agg cs = some v) : ∃ v', (loadVar t ⟨b, o, none⟩).run P w = .ok v' w ∧ VR w S m v v' := by
  obtain ⟨i, z, hi, hiz, _⟩ := hT.info
  obtain ⟨d, hu, hd, _⟩ := hT.und
  obtain ⟨h1, h2⟩ := VR.ofCells hl hv
  cases hg : ti.agg with
  | true =>
    refine ⟨.agg ⟨vs⟩, ?_, h1 hg⟩
    exact run_loadVar_mid w b o t vs d ha hu (hd.trans hg) (by simp [hi, hiz, hz])
  | false =>
    obtain ⟨v', rfl, hr⟩ := h2 hg
    refine ⟨v', ?_, hr⟩
    have hc := ha 0 v' rfl
    simp at hc
    simp [loadVar, Sem.run_bind, run_isAgg hu, hd, hg, hc]

theorem rdCls_L {n0 b : Nat} {a : AV} (h : rdCls n0 a = .L) (hb : below n0 a = decide (b < n0)) : b < n0 := by
  unfold rdCls at h
  rw [hb] at h
  by_cases hh : b < n0
  · exact hh
  · simp [hh] at h

theorem load_ok {t : TypeId} {ti : TI} (hT : TyOK P t ti) {hc : Heap} {n0 : Nat} {a v : AV} {c : Cls} {u : Upd} {x : Value}
    (h : aLoad ti hc n0 a = some (c, v, u)) (hv : VR w S m a x)
    (hcont : ∀ b o p, (c = .L → b < n0) → hc b = some o → m b = some p → CR w S m p o) :
    u = [] ∧ ∃ v', (Instr.loadAt t x).run P w = .ok v' w ∧ VR w S m v v' := by
  unfold aLoad at h
  split at h
  · rename_i cs hcs
    split at h
    · rename_i v1 hv1
      simp only [Option.some.injEq, Prod.mk.injEq] at h
      obtain ⟨h1, h2, h3⟩ := h
      subst h2
      refine ⟨h3.symm, ?_⟩
      obtain ⟨b, o, vs, hx, hl, hat, hz⟩ := rdCells_ok hcs hv (fun b o p hb => hcont b o p (fun hL => by
        cases a <;> simp only at hb
        case ptr b1 i off => subst hb; rw [← h1] at hL; exact rdCls_L hL rfl))
      obtain ⟨v', hr, hr'⟩ := loadVar_ok hT hl hat hz hv1
      exact ⟨v', by rw [hx]; simp only [Instr.loadAt, Instr.sureAddr, Sem.run_bind, Sem.run_pure, Result.andThen_ok, hr], hr'⟩
    · cases h
  · cases h

end
end Go.Av
