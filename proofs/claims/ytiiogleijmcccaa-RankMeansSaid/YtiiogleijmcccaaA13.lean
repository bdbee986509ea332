/-
  Values with what they lead to laid in. Conditions: none.
-/
import Derived.Test.YtiiogleijmcccaaA12
namespace Go.Av

theorem mapM_get {α β : Type} {f : α → Option β} : ∀ {l : List α} {l' : List β}, l.mapM f = some l' → l'.length = l.length ∧ ∀ (i : Nat) (x : α), l[i]? = some x → ∃ y, l'[i]? = some y ∧ f x = some y
  | [], l', h => by simp at h; subst h; exact ⟨rfl, fun i x h => by simp at h⟩
  | a :: l, l', h => by
    rw [List.mapM_cons] at h
    cases hf : f a with
    | none => simp [hf] at h
    | some b =>
      cases hr : l.mapM f with
      | none => simp [hf, hr] at h
      | some r =>
        simp [hf, hr] at h; subst h
        obtain ⟨h1, h2⟩ := mapM_get hr
        refine ⟨by simp [h1], fun i x hx => ?_⟩
        cases i with
        | zero => simp at hx; subst hx; exact ⟨b, rfl, hf⟩
        | succ i => simp at hx; exact h2 i x hx

section
variable {P : Program} {w : World} {S F : Nat → Prop} {m : Pm} {g : Heap} {Θ : Tab}

theorem rf_scal {fr : Bool} {d : Nat} {h : Heap} {a a' : AV} (hf : rf fr d h a = some a') (hs : scal a = true) : scal a' = true := by
  cases d with
  | zero => simp [rf] at hf
  | succ d =>
    cases a <;> simp only [rf, reduceCtorEq, Option.some.injEq] at hf <;> simp only [scal, Bool.false_eq_true] at hs <;> (try (subst hf; rfl))
    all_goals (repeat' split at hf) <;> simp_all <;> (first | (subst hf; rfl) | skip)

/-- What a frozen value leads to: what was frozen already, and the live blocks. -/
def SF (fr : Bool) (S : Nat → Prop) (h : Heap) (m : Pm) : Nat → Prop := fun k => (fr = true ∧ S k) ∨ ∃ b o p, h b = some o ∧ m b = some p ∧ k = p.blk

theorem rf_all (fr : Bool) (h : Heap) (hcont : ∀ b o p, h b = some o → m b = some p → CR w S m p o) : ∀ d : Nat,
    (∀ a a' v, rf fr d h a = some a' → VR w S m a v → VR w (SF fr S h m) (fun _ => none) a' v) ∧
    (∀ cs cs' vs, rfs fr d h cs = some cs' → LR w S m cs vs → LR w (SF fr S h m) (fun _ => none) cs' vs) ∧
    (∀ es es', rfe fr d h es = some es' → es'.length = es.length ∧ ∀ (i : Nat) (e : List AV), es[i]? = some e → ∃ e', es'[i]? = some e' ∧ e'.length = e.length ∧ (e.all scal = true → e'.all scal = true) ∧
      ∀ vs, LR w S m e vs → LR w (SF fr S h m) (fun _ => none) e' vs) := by
  intro d
  induction d with
  | zero => exact ⟨fun a a' v h => by simp [rf] at h, fun cs cs' vs h => by simp [rfs] at h, fun es es' h => by simp [rfe] at h⟩
  | succ d ih =>
    obtain ⟨ih1, ih2, ih3⟩ := ih
    have hs : ∀ cs cs', rfs fr d h cs = some cs' → cs'.length = cs.length ∧ (cs.all scal = true → cs'.all scal = true) := by
      intro cs cs' hh
      cases d with
      | zero => simp [rfs] at hh
      | succ d =>
        simp only [rfs] at hh
        obtain ⟨k1, k2⟩ := mapM_get hh
        refine ⟨k1, fun ha => List.all_eq_true.2 fun x hx => ?_⟩
        obtain ⟨i, hi, rfl⟩ := List.mem_iff_getElem.1 hx
        have hi' : i < cs.length := by omega
        obtain ⟨y, hy, hy'⟩ := k2 i cs[i] (by simp [hi'])
        have : cs'[i] = y := by simpa [hi] using hy
        rw [this]
        exact rf_scal hy' (List.all_eq_true.1 ha _ (List.getElem_mem _))
    refine ⟨fun a a' v hf hv => ?_, fun cs cs' vs hf hl => ?_, fun es es' hf => ?_⟩
    · cases hv <;> simp only [rf, reduceCtorEq] at hf
      case any => simp at hf; subst hf; exact .any _
      case bool => simp at hf; subst hf; exact .bool _
      case int => simp at hf; subst hf; exact .int _ _
      case str => simp at hf; subst hf; exact .str _
      case nilp => simp at hf; subst hf; exact .nilp
      case nilf => simp at hf; subst hf; exact .nilf
      case nili => simp at hf; subst hf; exact .nili
      case nils a => simp at hf; subst hf; exact .ron a 0
      case nilm => simp at hf; subst hf; exact .nilm
      case ptr b i off p hm =>
        split at hf
        · rename_i es hb
          split at hf
          · rename_i e he
            split at hf
            · rename_i e' he'
              simp only [Option.some.injEq] at hf; subst hf
              have hC := hcont b _ p hb hm
              obtain ⟨us, hl, hat⟩ := hC.seg he 0 e.length (by omega)
              simp only [List.drop_zero, List.take_length] at hl
              have hl' := ih2 _ _ _ he' hl
              have key : ∀ (j : Nat) (c : AV), e'[j]? = some c → us[j]? = some ((us[j]?).getD undef) := by
                intro j c hj
                obtain ⟨u, hu, _⟩ := hl'.get hj
                simp [hu]
              have hadd : (⟨p.blk, p.off + i * p.sz + off, none⟩ : Addr) = ⟨p.blk, p.off + i * p.sz + off, none⟩ := rfl
              refine .rp e' off p.blk (p.off + i * p.sz) (fun j => (us[j]?).getD undef) (.inr ⟨b, _, p, hb, hm, rfl⟩) (fun j c hj => ?_) (fun j c hj => hl'.2 j c _ hj (key j c hj))
              have := hat j _ (key j c hj)
              simpa using this
            · cases hf
          · cases hf
        · cases hf
      case rp cells off blk o us hS hc hr =>
        split at hf
        · rename_i hfr
          simp only [Option.some.injEq] at hf; subst hf
          exact .rp cells off blk o us (.inl ⟨hfr, hS⟩) hc (fun j c hj => (hr j c hj).mono (Ext.refl _ _) (fun k hk => .inl ⟨hfr, hk⟩) (fun _ _ h => h))
        · cases hf
      case sl b off len cap p h1 h2 h3 h4 hm =>
        split at hf
        · rename_i es hb
          split at hf
          · rename_i hle
            split at hf
            · rename_i es' he'
              simp only [Option.some.injEq] at hf; subst hf
              obtain ⟨k1, k2⟩ := ih3 _ _ he'
              obtain ⟨arr, ty, c1, c2, c3, c4, c5⟩ := (hcont b _ p hb hm).er
              have hE := (c5.drop off).take len
              have hlen : es'.length = len := by rw [k1]; simp; omega
              have hroom := Nat.mul_le_mul_right p.sz c3
              -- the cells, by element and place
              generalize hus : ((((arr.toList.drop p.off).take (p.ext * p.sz)).drop (off * p.sz)).take (len * p.sz)) = us at hE
              have back : ∀ (i : Nat) (e' : List AV), es'[i]? = some e' → i < len ∧ ∃ e, ((es.drop off).take len)[i]? = some e ∧ e'.length = p.sz ∧ e'.all scal = true ∧
                  LR w (SF fr S h m) (fun _ => none) e' ((us.drop (i * p.sz)).take p.sz) := by
                intro i e' hi
                have hil : i < len := by rw [← hlen]; exact (List.getElem?_eq_some_iff.1 hi).1
                have hil' : i < ((es.drop off).take len).length := by rw [← k1]; omega
                obtain ⟨e2, he2, l1, l2, l3⟩ := k2 i _ (List.getElem?_eq_getElem hil')
                rw [hi] at he2; cases he2
                obtain ⟨m1, m2, m3⟩ := hE.each i _ (List.getElem?_eq_getElem hil')
                exact ⟨hil, _, List.getElem?_eq_getElem hil', by rw [l1, m1], l2 m2, l3 _ m3⟩
              have cellv : ∀ i j c, getc es' i j = some c → ∃ u, us[i * p.sz + j]? = some u ∧ VR w (SF fr S h m) (fun _ => none) c u := by
                intro i j c hg
                unfold getc at hg
                cases he : es'[i]? with
                | none => simp [he] at hg
                | some e' =>
                  simp [he] at hg
                  obtain ⟨_, _, _, hz, _, hL⟩ := back i e' he
                  obtain ⟨u, hu, hr⟩ := hL.get hg
                  have hj : j < p.sz := by rw [← hz]; exact (List.getElem?_eq_some_iff.1 hg).1
                  rw [List.getElem?_take, if_pos hj, List.getElem?_drop] at hu
                  exact ⟨u, hu, hr⟩
              have lies : ∀ k u, us[k]? = some u → w.cell? ⟨p.blk, p.off + off * p.sz + k, none⟩ = some u := by
                intro k u hk
                rw [← hus, List.getElem?_take] at hk
                split at hk
                · rw [List.getElem?_drop, List.getElem?_take] at hk
                  split at hk
                  · rw [List.getElem?_drop, getElem?_toList] at hk
                    rw [cell?_cells c1, show p.off + off * p.sz + k = p.off + (off * p.sz + k) by omega]; exact hk
                  · cases hk
                · cases hk
              have := VR.ro (w := w) (S := SF fr S h m) (m := fun _ => none) es' p.blk (p.off + off * p.sz) p.sz cap (fun i j => (us[i * p.sz + j]?).getD undef) (.inr ⟨b, _, p, hb, hm, rfl⟩)
                (fun i e' hi => by obtain ⟨_, _, _, hz, hsc, _⟩ := back i e' hi; exact ⟨hz, hsc⟩) (by omega)
                (fun i j c hg => by
                  obtain ⟨u, hu, _⟩ := cellv i j c hg
                  have := lies _ _ hu
                  rw [hu, show p.off + off * p.sz + i * p.sz + j = p.off + off * p.sz + (i * p.sz + j) by omega, this]; rfl)
                (fun i j c hg => by obtain ⟨u, hu, hr⟩ := cellv i j c hg; rw [hu]; exact hr)
              rw [hlen] at this
              exact this
            · cases hf
          · cases hf
        · cases hf
      case ron a cap =>
        split at hf
        · simp only [Option.some.injEq] at hf; subst hf; exact .ron a cap
        · cases hf
      case ro es blk o sz cap us hS hz hcap hc hr =>
        split at hf
        · rename_i hor
          simp only [Option.some.injEq] at hf; subst hf
          by_cases hfr : fr = true
          · exact .ro es blk o sz cap us (.inl ⟨hfr, hS⟩) hz hcap hc (fun i j c hj => (hr i j c hj).mono (Ext.refl _ _) (fun k hk => .inl ⟨hfr, hk⟩) (fun _ _ h => h))
          · have he : es = [] := hor.resolve_left hfr
            subst he
            exact .ron _ _
        · cases hf
      case fn f caps vs hl hr =>
        split at hf
        · rename_i cs' hcs
          simp only [Option.some.injEq] at hf; subst hf
          have := ih2 _ _ _ hcs ⟨hl, hr⟩
          exact .fn f cs' vs this.1 this.2
        · cases hf
      case agg caps vs hl hr =>
        split at hf
        · rename_i cs' hcs
          simp only [Option.some.injEq] at hf; subst hf
          have := ih2 _ _ _ hcs ⟨hl, hr⟩
          exact .agg cs' vs this.1 this.2
        · cases hf
      case tup caps vs hl hr =>
        split at hf
        · rename_i cs' hcs
          simp only [Option.some.injEq] at hf; subst hf
          have := ih2 _ _ _ hcs ⟨hl, hr⟩
          exact .tup cs' vs this.1 this.2
        · cases hf
    · simp only [rfs] at hf
      obtain ⟨k1, k2⟩ := mapM_get hf
      refine ⟨by rw [k1]; exact hl.1, fun i c v hc hv => ?_⟩
      have hi : i < cs.length := by rw [← k1]; exact (List.getElem?_eq_some_iff.1 hc).1
      obtain ⟨y, hy, hy'⟩ := k2 i cs[i] (by simp [hi])
      rw [hc] at hy; cases hy
      exact ih1 _ _ _ hy' (hl.2 i cs[i] v (by simp [hi]) hv)
    · simp only [rfe] at hf
      obtain ⟨k1, k2⟩ := mapM_get hf
      refine ⟨k1, fun i e he => ?_⟩
      obtain ⟨e', he', hrf⟩ := k2 i e he
      obtain ⟨l1, l2⟩ := hs _ _ hrf
      exact ⟨e', he', l1, l2, fun vs hl => ih2 _ _ _ hrf hl⟩

end
end Go.Av
