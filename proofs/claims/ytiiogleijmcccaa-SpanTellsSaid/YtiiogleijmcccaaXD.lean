/-
  Texts XB, XC, XD of this work, one behind the other. Conditions: none.
-/
import Derived.Test.YtiiogleijmcccaaXA

/-
  Layer 16, the plain law: what goes on, by words. Conditions: none.
-/
namespace Go.Av
open Go.Proofs
set_option maxRecDepth 100000
set_option linter.unusedSimpArgs false
set_option linter.unusedVariables false

theorem Der.ext {g : Gr} {w t : List Int} {l : List Sy} {a c : Nat} (h : Der g w l a c) : Der g (w ++ t) l a c := by
  induction h with
  | nil h => exact .nil (by rw [List.length_append]; omega)
  | term h hl ih => exact .term (by rw [List.getElem?_append_left (List.getElem?_eq_some_iff.1 h).1]; exact h) ih
  | non hp hr hl ih1 ih2 => exact .non hp ih1 ih2

theorem Der.cut {g : Gr} {w t : List Int} {l : List Sy} {a c : Nat} (h : Der g (w ++ t) l a c) : c ≤ w.length → Der g w l a c := by
  induction h with
  | nil h => intro hc; exact .nil hc
  | term h hl ih =>
    intro hc
    have := hl.le
    exact .term (by rw [List.getElem?_append_left (by omega)] at h; exact h) (ih hc)
  | non hp hr hl ih1 ih2 =>
    intro hc
    have := hl.le
    exact .non hp (ih1 (by omega)) (ih2 hc)

/-- Tokens of a grammar. -/
def Tk' (g : Gr) (v : List Int) : Prop := ∀ x ∈ v, 0 ≤ x ∧ x < g.terms

theorem Tk'.app {g : Gr} {v v' : List Int} (h : Tk' g v) (h' : Tk' g v') : Tk' g (v ++ v') := fun x hx => by
  rcases List.mem_append.1 hx with hx | hx
  · exact h x hx
  · exact h' x hx

/-- A word comes of symbols. -/
def Wd (g : Gr) (l : List Sy) : Prop := ∃ v, Tk' g v ∧ ∀ u t, Der g (u ++ v ++ t) l u.length (u.length + v.length)

theorem Wd.nil {g : Gr} : Wd g [] := ⟨[], (fun x hx => by cases hx), fun u t => Der.nil (by simp)⟩

theorem Wd.app {g : Gr} {l m : List Sy} (h : Wd g l) (h' : Wd g m) : Wd g (l ++ m) := by
  obtain ⟨v, h1, h2⟩ := h
  obtain ⟨v', h3, h4⟩ := h'
  refine ⟨v ++ v', h1.app h3, fun u t => ?_⟩
  have e1 := h2 u (v' ++ t)
  have e2 := h4 (u ++ v) t
  rw [List.length_append] at e2
  rw [show u ++ (v ++ v') ++ t = u ++ v ++ (v' ++ t) by simp, List.length_append, ← Nat.add_assoc]
  rw [show u ++ v ++ v' ++ t = u ++ v ++ (v' ++ t) by simp] at e2
  exact e1.append e2

theorem Wd.list {g : Gr} : ∀ l : List Sy, (∀ s ∈ l, Wd g [s]) → Wd g l
  | [], _ => .nil
  | s :: l, h => (h s (by simp)).app (Wd.list l fun x hx => h x (by simp [hx]))

theorem Wd.term {g : Gr} {t : Int} (h0 : 0 ≤ t) (h1 : t < g.terms) : Wd g [⟨false, t⟩] := by
  refine ⟨[t], (fun x hx => by rw [List.mem_singleton.1 hx]; exact ⟨h0, h1⟩), fun u r => ?_⟩
  exact .term (by simp) (.nil (by simp))

theorem prod_wd {g : Gr} (hg : right g = true) : ∀ (k : Nat) (n : Int), 0 ≤ n → rk (ranksL g true) n ≠ 0 → (rk (ranksL g true) n).toNat ≤ k → Wd g [⟨true, n⟩] := by
  intro k
  induction k with
  | zero =>
    intro n h0 hr hk
    have := ((ranks_fin (terms := true) hg).2.2.1.prod h0 hr).1
    omega
  | succ k ih =>
    intro n h0 hr hk
    obtain ⟨h1, p, hp, hpl, hf⟩ := (ranks_fin (terms := true) hg).2.2.1.prod h0 hr
    obtain ⟨_, _, _, _, hin⟩ := right_in hg
    subst hpl
    rw [fits_iff] at hf
    have hw : Wd g p.right := Wd.list _ fun s hs => by
      have h2 := hf s hs
      have h3 := (hin p hp).2.2 s hs
      obtain ⟨sn, n⟩ := s
      cases sn with
      | false =>
        have h3 : 0 ≤ n ∧ n < g.terms := h3
        exact Wd.term h3.1 h3.2
      | true =>
        have h2 : 1 ≤ rk (ranksL g true) n ∧ rk (ranksL g true) n < _ := h2
        have h3 : 0 ≤ n ∧ n < g.nons := h3
        exact ih n h3.1 (by omega) (by omega)
    obtain ⟨v, q1, q2⟩ := hw
    exact ⟨v, q1, fun u t => .non hp (q2 u t) (.nil (by simp))⟩

/-- Words come of all. -/
def Prd (g : Gr) : Prop := ∀ n : Int, 0 ≤ n → n < g.nons → Wd g [⟨true, n⟩]

theorem fit_prd {g : Gr} {w : List Int} (h : fitG g w = true) : Prd g := by
  have hr := fit_right h
  rw [fitG, Bool.and_eq_true] at h
  have h1 := of_decide_eq_true h.1
  intro n h0 hn
  refine prod_wd hr _ n h0 ?_ (Nat.le_refl _)
  intro hz
  cases hs : seek (zR (ranksL g true)) g.nons.toNat 0 with
  | some i =>
    rw [checkL, hr, hs] at h1
    cases h1
  | none =>
    have := seek_none hs n.toNat (by omega) (by omega)
    rw [zR, show ((n.toNat : Nat) : Int) = n by omega] at this
    simp [hz] at this

theorem prd_list {g : Gr} (hr : right g = true) (h : Prd g) {p : Pr} (hp : p ∈ g.prods) {l : List Sy} (hl : ∀ s ∈ l, s ∈ p.right) : Wd g l := by
  obtain ⟨_, _, _, _, hin⟩ := right_in hr
  refine Wd.list _ fun s hs => ?_
  have h3 := (hin p hp).2.2 s (hl s hs)
  obtain ⟨sn, n⟩ := s
  cases sn with
  | false =>
    have h3 : 0 ≤ n ∧ n < g.terms := h3
    exact Wd.term h3.1 h3.2
  | true =>
    have h3 : 0 ≤ n ∧ n < g.nons := h3
    exact h n h3.1 h3.2

theorem ovr_ext {g : Gr} (hr : right g = true) (hpd : Prd g) {w : List Int} {n : Int} {a : Nat} (h : Ovr g w n a) : ∃ t, Tk' g t ∧ Der g (w ++ t) [⟨true, n⟩] a (w ++ t).length := by
  induction h with
  | @eps p a hp ha =>
    obtain ⟨_, _, _, _, hin⟩ := right_in hr
    obtain ⟨v, q1, q2⟩ := hpd p.left (hin p hp).1.1 (hin p hp).1.2
    refine ⟨v, q1, ?_⟩
    have := q2 w []
    rw [List.append_nil] at this
    rw [ha, List.length_append]
    exact this
  | @all p l m a hp hrr hl hd =>
    obtain ⟨v, q1, q2⟩ := prd_list hr hpd hp (l := m) fun s hs => by rw [hrr]; simp [hs]
    refine ⟨v, q1, ?_⟩
    have e2 := q2 w []
    rw [List.append_nil] at e2
    have e1 : Der g (w ++ v) l a w.length := hd.ext
    have e3 := e1.append e2
    rw [← hrr] at e3
    rw [List.length_append]
    exact .non hp e3 (.nil (by rw [List.length_append]; exact Nat.le_refl _))
  | @non p l m n a b hp hrr hd ho ih =>
    obtain ⟨t, q3, q4⟩ := ih
    obtain ⟨v, q1, q2⟩ := prd_list hr hpd hp (l := m) fun s hs => by rw [hrr]; simp [hs]
    refine ⟨t ++ v, q3.app q1, ?_⟩
    have e2 := q2 (w ++ t) []
    rw [List.append_nil] at e2
    have e1 : Der g (w ++ t ++ v) l a b := (hd.ext (t := t)).ext
    have e3 : Der g (w ++ t ++ v) [⟨true, n⟩] b (w ++ t).length := q4.ext
    have e4 := e1.append (e3.append e2)
    rw [show l ++ ([⟨true, n⟩] ++ m) = p.right by rw [hrr]; rfl] at e4
    rw [← List.append_assoc, List.length_append (bs := v)]
    exact .non hp e4 (.nil (by rw [List.length_append (bs := v)]; exact Nat.le_refl _))

/-- Symbols of which the first ones go on. -/
def OvL (g : Gr) (w : List Int) (l : List Sy) (a : Nat) : Prop := (∃ l1 m, l = l1 ++ m ∧ l1 ≠ [] ∧ Der g w l1 a w.length) ∨ ∃ l1 n m b, l = l1 ++ ⟨true, n⟩ :: m ∧ Der g w l1 a b ∧ Ovr g w n b

theorem OvL.cons {g : Gr} {w : List Int} {s : Sy} {l : List Sy} {a b : Nat} (h : OvL g w l b) (hs : Der g w [s] a b) : OvL g w (s :: l) a := by
  rcases h with ⟨l1, m, e, h1, h2⟩ | ⟨l1, n, m, c, e, h1, h2⟩
  · exact .inl ⟨s :: l1, m, by rw [e]; rfl, by simp, hs.append h2⟩
  · exact .inr ⟨s :: l1, n, m, c, by rw [e]; rfl, hs.append h1, h2⟩

theorem OvL.prod {g : Gr} {w : List Int} {p : Pr} (hp : p ∈ g.prods) {a : Nat} (h : a = w.length ∨ OvL g w p.right a) : Ovr g w p.left a := by
  rcases h with h | ⟨l1, m, e, h1, h2⟩ | ⟨l1, n, m, c, e, h1, h2⟩
  · exact .eps hp h
  · exact .all hp e h1 h2
  · exact .non hp e h1 h2

theorem ovl_of {g : Gr} {w t : List Int} {l : List Sy} {a c : Nat} (h : Der g (w ++ t) l a c) : a ≤ w.length → w.length ≤ c → a = w.length ∨ OvL g w l a := by
  induction h with
  | nil h => intro h1 h2; exact .inl (by omega)
  | @term x l a c h hl ih =>
    intro h1 h2
    by_cases ha : a = w.length
    · exact .inl ha
    rw [List.getElem?_append_left (by omega)] at h
    have hd : Der g w [⟨false, x⟩] a (a + 1) := .term h (.nil (by omega))
    rcases ih (by omega) h2 with e | e
    · exact .inr (.inl ⟨[⟨false, x⟩], l, rfl, by simp, by rw [← e]; exact hd⟩)
    · exact .inr (e.cons hd)
  | @non p l a b c hp hr hl ih1 ih2 =>
    intro h1 h2
    by_cases ha : a = w.length
    · exact .inl ha
    by_cases hb : b ≤ w.length
    · have hd : Der g w [⟨true, p.left⟩] a b := .non hp (hr.cut hb) (.nil hb)
      rcases ih2 hb h2 with e | e
      · exact .inr (.inl ⟨[⟨true, p.left⟩], l, rfl, by simp, by rw [← e]; exact hd⟩)
      · exact .inr (e.cons hd)
    · have := OvL.prod hp (ih1 h1 (by omega))
      exact .inr (.inr ⟨[], p.left, l, a, rfl, .nil (by omega), this⟩)

theorem ovr_of {g : Gr} {w t : List Int} {n : Int} {a : Nat} (h : Der g (w ++ t) [⟨true, n⟩] a (w ++ t).length) (ha : a ≤ w.length) : Ovr g w n a := by
  have hc : w.length ≤ (w ++ t).length := by rw [List.length_append]; omega
  generalize (w ++ t).length = c at h hc
  cases h with
  | non hp hr hl =>
    cases hl with
    | nil _ => exact OvL.prod hp (ovl_of hr ha hc)

end Go.Av

/-
  Layer 16: over which a word goes on. Conditions: none.
-/
namespace Go.Av
open Go.Proofs
set_option maxRecDepth 100000
set_option linter.unusedSimpArgs false
set_option linter.unusedVariables false

theorem below_take {w : List Int} {m : Int} {a : Nat} (h : belowB w m = true) : belowB (w.take a) m = true := by
  unfold belowB at h ⊢
  rw [List.all_eq_true] at h ⊢
  exact fun x hx => h x (List.take_subset a w hx)

theorem fit_take {g : Gr} {w : List Int} {a : Nat} (h : fitG g w = true) : fitG g (w.take a) = true := by
  rw [fitG, fitsW, rightW, Bool.and_eq_true, Bool.and_eq_true, Bool.and_eq_true] at h ⊢
  obtain ⟨h1, ⟨h2, h3⟩, h4⟩ := h
  refine ⟨h1, ⟨decide_eq_true ?_, below_take h3⟩, below_take h4⟩
  have := of_decide_eq_true h2
  rw [List.length_take]
  omega

theorem below_snoc {w : List Int} {m t : Int} (h : belowB w m = true) (h0 : 0 ≤ t) (h1 : t < m) : belowB (w ++ [t]) m = true := by
  unfold belowB at h ⊢
  rw [List.all_append, h, Bool.true_and]
  simp [h0, h1]

theorem fit_snoc {g : Gr} {w : List Int} {t : Int} (h : fitG g w = true) (h0 : 0 ≤ t) (h1 : t < g.terms) (hl : w.length < 24) : fitG g (w ++ [t]) = true := by
  have hr := fit_right h
  obtain ⟨_, ⟨_, ht⟩, _⟩ := right_in hr
  rw [fitG, fitsW, rightW, Bool.and_eq_true, Bool.and_eq_true, Bool.and_eq_true] at h ⊢
  obtain ⟨h2, ⟨h3, h4⟩, h5⟩ := h
  refine ⟨h2, ⟨decide_eq_true ?_, below_snoc h4 h0 (by omega)⟩, below_snoc h5 h0 h1⟩
  rw [List.length_append, List.length_singleton]
  omega

theorem large_len {g : Gr} {w : List Int} (h : largeW g w = false) (h24 : w.length ≤ 24) : w.length ≤ 8 := by
  rw [largeW, Bool.or_eq_false_iff, Bool.or_eq_false_iff] at h
  by_cases hl : w.length ≤ 8
  · exact hl
  · have := h.1.2
    rw [decide_eq_true (show (w.length : Int) > 8 by omega), decide_eq_true (show (w.length : Int) ≤ 24 by omega)] at this
    cases this

/-- What the rows of a beginning say. -/
theorem over_law {g : Gr} {w : List Int} {k : Nat} (hk : k ≤ w.length) {f : Nat → Nat} (hf : Rc g (w.take k) f) {i : Nat} (hi : i < 24) :
    (spanF g w i 0 w.length = true → (f 24).testBit i = true) ∧ (spanF g w i 0 k = true → (f i).testBit k = true) := by
  have hlk : (w.take k).length = k := by rw [List.length_take]; omega
  refine ⟨fun h => (hf.2.2 i).2 ?_, fun h => (hf.2.1 i hi k).2 ?_⟩
  · have h1 := spanF_iff.1 h
    refine ovr_of (t := w.drop k) ?_ (by omega)
    rw [List.take_append_drop]
    exact h1
  · have h1 := spanF_iff.1 h
    rw [← List.take_append_drop k w] at h1
    exact h1.cut (by omega)

theorem more_law {g : Gr} {u : List Int} (hf : fitG g u = true) {f : Nat → Nat} (hrc : Rc g u f) {i : Nat} (hi : i < 24) (ho : (f 24).testBit i = true) :
    (f i).testBit u.length = true ∨ ∃ t : Nat, (t : Int) < g.terms ∧ Ovr g (u ++ [(t : Int)]) (i : Int) 0 := by
  have hr := fit_right hf
  obtain ⟨v, h1, h2⟩ := ovr_ext hr (fit_prd hf) ((hrc.2.2 i).1 ho)
  cases v with
  | nil =>
    rw [List.append_nil] at h2
    exact .inl ((hrc.2.1 i hi _).2 h2)
  | cons x v =>
    obtain ⟨h3, h4⟩ := h1 x (by simp)
    refine .inr ⟨x.toNat, by omega, ?_⟩
    rw [show ((x.toNat : Nat) : Int) = x by omega]
    refine ovr_of (t := v) ?_ (by omega)
    rw [List.append_assoc]
    exact h2

end Go.Av

/-
  Layer 16: over which a word goes on, walked. Conditions: none.
-/
namespace Go.Av
open Go.Proofs
set_option maxRecDepth 100000
set_option linter.unusedSimpArgs false
set_option linter.unusedVariables false

set_option maxHeartbeats 16000000 in
theorem f22 (g : Gr) (hg : g.Small) (w : List Int) (k0 : Nat) (hk0 : k0 < 256) : FH pg Tq 22 [.agg (eGr g), .ro (w.map eIn), .int .u8 k0] h0 0 fun r _ _ => r = .bool true := by
  refine FH.of (N := 151) (rs := #[.tmp 6]) Try.func22 rfl rfl (of_decide_eq_true rfl) rfl (by decide) ?_
  refine W.rseq (k := 2) rfl fun K hK => ?_
  simp only [go_sem]
  refine hK _ _ _ ?_
  clear hK K
  refine W.seq ?_
  refine W.rseq (k := 2) rfl fun K hK => ?_
  simp only [go_sem]
  refine VCall.frz 6 f70 rfl ?_
  try simp only [go_sem]
  refine hK _ _ _ ?_
  clear hK K
  refine W.condF (by simp only [go_sem]) ?_
  refine W.skip ?_
  simp only [go_sem]
  refine W.seq ?_
  refine W.rseq (k := 9) rfl fun K hK => ?_
  simp only [go_sem]
  refine VCall.frz 6 (f71 g hg w) rfl ?_
  cases hlg : largeW g w with
  | true =>
    simp only [go_sem]
    refine hK _ _ _ ?_
    first | clear hK K | clear hK | skip
    refine W.condT (by simp only [go_sem]) ?_
    refine W.rseq (k := 1) rfl fun K hK => ?_
    simp only [go_sem]
    refine hK _ _ _ ?_
    clear hK K
    refine W.ret ?_
    simp only [go_sem]
  | false =>
  have hw40 := not_large hlg
  simp only [go_sem]
  refine VCall.frz 6 (f76 g hg w (by omega)) rfl ?_
  cases hf : fitG g w with
  | false =>
    simp only [go_sem]
    refine hK _ _ _ ?_
    first | clear hK K | clear hK | skip
    refine W.condT (by simp only [go_sem]) ?_
    refine W.rseq (k := 1) rfl fun K hK => ?_
    simp only [go_sem]
    refine hK _ _ _ ?_
    clear hK K
    refine W.ret ?_
    simp only [go_sem]
  | true =>
  simp only [go_sem]
  refine hK _ _ _ ?_
  first | clear hK K | clear hK | skip
  refine W.condF (by simp only [go_sem]) ?_
  refine W.skip ?_
  simp only [go_sem]
  have hr := fit_right hf
  have hw8 := large_len hlg (fit_len hf)
  obtain ⟨⟨hn1, hn2⟩, ⟨ht1, ht2⟩, _, hp60, h5⟩ := right_in hr
  obtain ⟨M, hM⟩ : ∃ M, M = g.nons.toNat := ⟨_, rfl⟩
  have hMn : g.nons = (M : Int) := by omega
  obtain ⟨T, hT⟩ : ∃ T : Nat, g.terms = (T : Int) := ⟨g.terms.toNat, by omega⟩
  have h36 := f36 g hg (right_dom hr) w (by omega)
  rw [← hM] at h36
  obtain ⟨k, hk⟩ : ∃ k, k = k0 % (w.length + 1) := ⟨_, rfl⟩
  have hkw : k ≤ w.length := by have := Nat.mod_lt k0 (show 0 < w.length + 1 by omega); omega
  have hkr : ((k0 : Int)).tmod ((w.length : Int) + 1) = (k : Int) := by
    rw [hk]; exact (Int.ofNat_tmod k0 (w.length + 1)).symm
  have hfu := fit_take (a := k) hf
  have hlk : (w.take k).length = k := by rw [List.length_take]; omega
  obtain ⟨l, h74, _, hl1⟩ := f74 g hg (w.take k) (by omega)
  have hrc := hl1 hfu
  clear hl1
  have hll : l.length = k + 1 := by rw [hrc.1, hlk]
  have hr0 := hrc.2 0 (by omega)
  rw [List.drop_zero] at hr0
  have hg0 := row_get (rows := l) (j := 0) (by omega)
  obtain ⟨f, hfd⟩ : ∃ f, f = rowAt l 0 := ⟨_, rfl⟩
  rw [← hfd] at hg0 hr0
  refine W.rseq (k := 4) rfl fun K hK => ?_
  simp only [go_sem]
  refine VCall.frz 6 h36 rfl ?_
  try simp only [go_sem]
  refine hK _ _ _ ?_
  clear hK K
  refine W.rseq (k := 7) rfl fun K hK => ?_
  simp only [go_sem, wrap64 (show -9223372036854775808 ≤ (k0 : Int) by omega) (by omega), wrap64 (show -9223372036854775808 ≤ (w.length : Int) + 1 by omega) (by omega), show ¬ (w.length : Int) + 1 = 0 by omega, ne_eq, not_false_eq_true, if_true, hkr]
  refine hK _ _ _ ?_
  clear hK K
  have htk : ((w.map eIn).drop 0).take (k - 0) = (w.take k).map eIn := by rw [List.drop_zero, Nat.sub_zero, List.map_take]
  have htk3 : (w.map eIn).take (k - 0) = (w.take k).map eIn := by rw [Nat.sub_zero, List.map_take]
  have htk2 : (w.map eIn).take k = (w.take k).map eIn := by rw [List.map_take]
  refine W.dseq (k := 6) rfl fun K hK => ?_
  simp only [go_sem, List.length_map, htk, htk2, htk3, len_map (e := eIn) (sz := 1) (fun x => rfl), hkw, Nat.zero_le, and_self, if_true]
  refine VCall.frz 6 h74 rfl ?_
  simp only [go_sem]
  refine hK _ _ _ _ (by kernel_rfl) ?_
  clear hK K
  refine W.seq ?_
  refine W.rseq (k := 5) rfl fun K hK => ?_
  simp only [go_sem, wrap64 (show -9223372036854775808 ≤ (k : Int) + 1 by omega) (by omega), decide_eq_true (show (l.length : Int) = (k : Int) + 1 by omega)]
  refine hK _ _ _ ?_
  clear hK K
  refine W.condF (by simp only [go_sem]) ?_
  refine W.skip ?_
  simp only [go_sem]
  refine W.seqk fun K hK => ?_
  refine W.rseq (k := 3) rfl fun K hK => ?_
  simp only [go_sem]
  refine hK _ _ _ ?_
  clear hK K
  have nx0 : ∀ (t' : Fr) (h' : Heap) (n' : Nat), K t' h' n' := by
    intro t' h' n'
    refine hK _ _ _ ?_
    refine W.rseq (k := 1) rfl fun K hK => ?_
    simp only [go_sem]
    refine hK _ _ _ ?_
    clear hK K
    refine W.ret ?_
    simp only [go_sem]
  clear hK
  refine W.block (W.while (fun m t h n => ∃ i : Nat, m = M - i ∧ i ≤ M ∧ 0 < n ∧ h 0 = some (.cells [eGr g]) ∧ (t 1 = .ro (w.map eIn) ∧ t 3 = .ptr 0 0 0 ∧ t 7 = .ro (e3 M (w.length + 1) (w.length + 1) (spanF g w)) ∧ t 8 = .int .i64 k ∧ t 9 = .ro (l.map eRw) ∧ t 45 = .int .i64 M) ∧ t 46 = .int .i64 i) M
    ⟨0, by simp, by simp, by omega, by simp only [go_sem], ⟨rfl, rfl, rfl, rfl, rfl, by simp only [go_sem, hMn]⟩, rfl⟩ fun m t h n ⟨i, i1, i2, i3, i4, i5, i6⟩ => ?_)
  have i5' := i5
  obtain ⟨a1, a3, a7, a8, a9, a45⟩ := i5'
  refine W.rseq (k := 1) rfl fun K hK => ?_
  simp only [go_sem, a45, i6]
  refine hK _ _ _ ?_
  clear hK K
  refine W.seq ?_
  refine W.cond rfl (fun hc => ?_) fun hc => ?_
  · refine W.skip ?_
    simp only [go_sem]
    have hi : i < M := by simp at hc; omega
    have hi24 : i < 24 := by omega
    obtain ⟨law1, law2⟩ := over_law hkw hr0 hi24
    refine W.seqk fun K hK => ?_
    have nx : ∀ (t' : Fr) (h' : Heap) (n' : Nat), 0 < n' → h' 0 = some (.cells [eGr g]) → (t' 1 = .ro (w.map eIn) ∧ t' 3 = .ptr 0 0 0 ∧ t' 7 = .ro (e3 M (w.length + 1) (w.length + 1) (spanF g w)) ∧ t' 8 = .int .i64 k ∧ t' 9 = .ro (l.map eRw) ∧ t' 45 = .int .i64 M) → t' 46 = .int .i64 i → K t' h' n' := by
      intro t' h' n' e1 e2 e3 e4
      refine hK _ _ _ ?_
      clear hK K
      refine W.region (k := 2) rfl ?_
      simp only [go_sem, e4]
      refine ⟨M - (i + 1), by omega, i + 1, rfl, by omega, by omega, e2, e3, ?_⟩
      rw [wrap64 (by omega) (by omega)]; rfl
    clear hK
    have hO1 := shr32 (x := f 24) (show i < 32 by omega)
    have hO2 := and32 (x := f 24 / 2 ^ i) (Nat.lt_of_le_of_lt (Nat.div_le_self _ _) (hr0.1.1 24))
    have hE1 := shr32 (x := f i) (show k < 32 by omega)
    have hE2 := and32 (x := f i / 2 ^ k) (Nat.lt_of_le_of_lt (Nat.div_le_self _ _) (hr0.1.1 i))
    refine W.block ?_
    refine W.rseq (k := 2) rfl fun K hK => ?_
    simp only [go_sem, i6]
    refine hK _ _ _ ?_
    clear hK K
    refine W.seq ?_
    refine W.rseq (k := 43) rfl fun K hK => ?_
    have nx13 : ∀ (t' : Fr) (h' : Heap) (n' : Nat), 0 < n' → h' 0 = some (.cells [eGr g]) → (t' 1 = .ro (w.map eIn) ∧ t' 3 = .ptr 0 0 0 ∧ t' 7 = .ro (e3 M (w.length + 1) (w.length + 1) (spanF g w)) ∧ t' 8 = .int .i64 k ∧ t' 9 = .ro (l.map eRw) ∧ t' 45 = .int .i64 M) → t' 46 = .int .i64 i → t' 10 = .int .i64 i → t' 91 = .bool false → K t' h' n' := by
      intro t' h' n' e1 e2 e3 e4 e5 e6
      refine hK _ _ _ ?_
      clear hK K
      refine W.condF (by simp only [go_sem, e6]) ?_
      refine W.skip ?_
      simp only [go_sem]
      obtain ⟨a1, a3, a7, a8, a9, a45⟩ := e3
      refine W.seq ?_
      refine W.rseq (k := 12) rfl fun K hK => ?_
      cases hO : (f 24).testBit i with
      | false =>
        simp only [go_sem, a9, e5, hg0, eR_len, eR_get (show 24 < 25 by omega), hO1, hO2, bit_zero, hO]
        refine hK _ _ _ ?_
        first | clear hK K | clear hK | skip
        refine W.condT (by simp only [go_sem]) ?_
        refine W.exit ?_
        simp only [go_sem]
        exact nx _ _ _ (by omega) e2 ⟨a1, a3, a7, a8, a9, a45⟩ e4
      | true =>
      have hmore := more_law hfu hr0 hi24 hO
      rw [hlk] at hmore
      simp only [go_sem, a8, a9, e5, hg0, eR_len, eR_get (show 24 < 25 by omega), hO1, hO2, bit_zero, hO, decide_eq_false (show ¬ (k : Int) = 24 by omega)]
      refine hK _ _ _ ?_
      first | clear hK K | clear hK | skip
      refine W.condF (by simp only [go_sem]) ?_
      refine W.skip ?_
      simp only [go_sem]
      refine W.rseq (k := 11) rfl fun K hK => ?_
      simp only [go_sem, a8, a9, e5, hg0, eR_len, eR_get (show i < 25 by omega), hE1, hE2, bit_is1, show (i : Int) < 24 by omega, Nat.mul_one, show i + 1 ≤ 25 by omega]
      refine hK _ _ _ ?_
      clear hK K
      refine W.seqk fun K hK => ?_
      refine W.rseq (k := 3) rfl fun K hK => ?_
      simp only [go_sem, a3, e2]
      refine hK _ _ _ ?_
      clear hK K
      have nx17 : ∀ (t' : Fr) (h' : Heap) (n' : Nat) (b : Bool), 0 < n' → h' 0 = some (.cells [eGr g]) → (t' 1 = .ro (w.map eIn) ∧ t' 3 = .ptr 0 0 0 ∧ t' 7 = .ro (e3 M (w.length + 1) (w.length + 1) (spanF g w)) ∧ t' 8 = .int .i64 k ∧ t' 9 = .ro (l.map eRw) ∧ t' 45 = .int .i64 M) → t' 46 = .int .i64 i → t' 11 = .bool b → ((f i).testBit k = true → b = true) → (∀ τ : Nat, τ < T → Ovr g (w.take k ++ [(τ : Int)]) (i : Int) 0 → b = true) → K t' h' n' := by
        intro t' h' n' b e1 e2 e3 e4 e5 e6 e7
        refine hK _ _ _ ?_
        clear hK K
        have hb : b = true := by
          rcases hmore with h | ⟨τ, h1, h2⟩
          · exact e6 h
          · exact e7 τ (by omega) h2
        refine W.rseq (k := 2) rfl fun K hK => ?_
        simp only [go_sem, e5, hb]
        refine hK _ _ _ ?_
        clear hK K
        refine W.condF (by simp only [go_sem]) ?_
        refine W.skip ?_
        simp only [go_sem]
        exact nx _ _ _ (by omega) e2 e3 e4
      clear hK
      refine W.block (W.while (fun m t h n => ∃ (τ : Nat) (b : Bool), m = T - τ ∧ τ ≤ T ∧ 0 < n ∧ h 0 = some (.cells [eGr g]) ∧ (t 1 = .ro (w.map eIn) ∧ t 3 = .ptr 0 0 0 ∧ t 7 = .ro (e3 M (w.length + 1) (w.length + 1) (spanF g w)) ∧ t 8 = .int .i64 k ∧ t 9 = .ro (l.map eRw) ∧ t 45 = .int .i64 M) ∧ t 46 = .int .i64 i ∧ t 10 = .int .i64 i ∧ t 115 = .int .i64 T ∧ t 116 = .int .i64 τ ∧ t 11 = .bool b ∧ ((f i).testBit k = true → b = true) ∧ (∀ σ : Nat, σ < τ → Ovr g (w.take k ++ [(σ : Int)]) (i : Int) 0 → b = true)) T
        ⟨0, (f i).testBit k, by simp, by simp, by omega, e2, ⟨a1, a3, a7, a8, a9, a45⟩, e4, e5, by simp only [go_sem, hT], rfl, rfl, fun h => h, fun σ hσ => by omega⟩ fun m t h n ⟨τ, b, j1, j2, j3, j4, j5, j6, j7, j8, j9, j10, j11, j12⟩ => ?_)
      clear a1 a3 a7 a8 a9 a45
      have j5' := j5
      obtain ⟨a1, a3, a7, a8, a9, a45⟩ := j5'
      refine W.rseq (k := 1) rfl fun K hK => ?_
      simp only [go_sem, j8, j9]
      refine hK _ _ _ ?_
      clear hK K
      refine W.seq ?_
      refine W.cond rfl (fun hc => ?_) fun hc => ?_
      · refine W.skip ?_
        simp only [go_sem]
        have hτ : τ < T := by simp at hc; omega
        have hft := fit_snoc (t := (τ : Int)) hfu (by omega) (by omega) (by omega)
        obtain ⟨v, h74t, _, hv1⟩ := f74 g hg (w.take k ++ [(τ : Int)]) (by rw [List.length_append, hlk, List.length_singleton]; omega)
        have hvc := hv1 hft
        clear hv1
        have hvl : v.length = k + 2 := by rw [hvc.1, List.length_append, hlk, List.length_singleton]
        have hv0 := hvc.2 0 (by omega)
        rw [List.drop_zero] at hv0
        have hgv := row_get (rows := v) (j := 0) (by omega)
        obtain ⟨q, hq⟩ : ∃ q, q = rowAt v 0 := ⟨_, rfl⟩
        rw [← hq] at hv0 hgv
        have hq1 := shr32 (x := q 24) (show i < 32 by omega)
        have hq2 := and32 (x := q 24 / 2 ^ i) (Nat.lt_of_le_of_lt (Nat.div_le_self _ _) (hv0.1.1 24))
        have z0 : ∀ j, ¬ 0 = n + j := fun j => by omega
        have l0 : ∀ j, (0 < n + j) = True := fun j => eq_true (by omega)
        refine W.seqk fun K hK => ?_
        have nx22 : ∀ (t' : Fr) (h' : Heap) (n' : Nat) (b : Bool), 0 < n' → h' 0 = some (.cells [eGr g]) → (t' 1 = .ro (w.map eIn) ∧ t' 3 = .ptr 0 0 0 ∧ t' 7 = .ro (e3 M (w.length + 1) (w.length + 1) (spanF g w)) ∧ t' 8 = .int .i64 k ∧ t' 9 = .ro (l.map eRw) ∧ t' 45 = .int .i64 M) → t' 46 = .int .i64 i → t' 10 = .int .i64 i → t' 115 = .int .i64 T → t' 116 = .int .i64 τ → t' 11 = .bool b → ((f i).testBit k = true → b = true) → (∀ σ : Nat, σ < τ + 1 → Ovr g (w.take k ++ [(σ : Int)]) (i : Int) 0 → b = true) → K t' h' n' := by
          intro t' h' n' b e1 e2 e3 e4 e5 e6 e7 e8 e9 e10
          refine hK _ _ _ ?_
          clear hK K
          refine W.region (k := 2) rfl ?_
          simp only [go_sem, e7]
          refine ⟨T - (τ + 1), by omega, τ + 1, b, rfl, by omega, by omega, e2, e3, e4, e5, e6, ?_, e8, e9, e10⟩
          rw [wrap64 (by omega) (by omega)]; rfl
        clear hK
        refine W.block ?_
        refine W.rseq (k := 2) rfl fun K hK => ?_
        simp only [go_sem, j9]
        refine hK _ _ _ ?_
        clear hK K
        refine W.seqk fun K hK => ?_
        have nx20 : ∀ (t' : Fr) (h' : Heap) (n' : Nat), 0 < n' → h' 0 = some (.cells [eGr g]) → (t' 1 = .ro (w.map eIn) ∧ t' 3 = .ptr 0 0 0 ∧ t' 7 = .ro (e3 M (w.length + 1) (w.length + 1) (spanF g w)) ∧ t' 8 = .int .i64 k ∧ t' 9 = .ro (l.map eRw) ∧ t' 45 = .int .i64 M) → t' 46 = .int .i64 i → t' 10 = .int .i64 i → t' 115 = .int .i64 T → t' 116 = .int .i64 τ → t' 11 = .bool b → t' 13 = .ro (v.map eRw) → K t' h' n' := by
          intro t' h' n' e1 e2 e3 e4 e5 e6 e7 e8 e9
          refine hK _ _ _ ?_
          clear hK K
          have e3' := e3
          obtain ⟨a1, a3, a7, a8, a9, a45⟩ := e3'
          refine W.region (k := 19) rfl ?_
          cases hb : b
          · simp only [go_sem, e8, hb, e9, a8, wrap64 (show -9223372036854775808 ≤ (k : Int) + 2 by omega) (by omega), decide_eq_true (show (v.length : Int) = (k : Int) + 2 by omega), hgv, eR_len, eR_get (show 24 < 25 by omega), e5, hq1, hq2, bit_is1]
            refine nx22 _ _ _ ((q 24).testBit i) (by omega) e2 e3 e4 e5 e6 e7 rfl (fun h => by have := j11 h; rw [hb] at this; cases this) (fun σ hσ ho => ?_)
            by_cases e : σ = τ
            · subst e
              exact (hv0.2.2 i).2 ho
            · have := j12 σ (by omega) ho
              rw [hb] at this; cases this
          · simp only [go_sem, e8, hb]
            exact nx22 _ _ _ true (by omega) e2 e3 e4 e5 e6 e7 rfl (fun _ => rfl) (fun _ _ _ => rfl)
        clear hK
        have hfz : ∀ (h' : Heap) (b' : Nat), h' b' = some (.cells ((w.take k ++ [(τ : Int)]).map eIn)) → rf true 4 h' (.sl b' 0 (k + 1) 1) = some (.ro ((w.take k ++ [(τ : Int)]).map eIn)) := fun h' b' hb' =>
          SlL.frz (e := eIn) (sz := 1) (lo := 0) (n := b' + 1) (l := w.take k ++ [(τ : Int)]) (.inr ⟨b', by rw [List.length_append, hlk, List.length_singleton], by omega, by omega, hb'⟩) (d := 2) fun x _ => by simp [rfs, rf, eIn]
        refine W.draw (k := 11) rfl ?_
        by_cases hu : w.take k = []
        · have hk0 : k = 0 := by rw [hu] at hlk; exact hlk.symm
          have hall : (∀ e : List AV, e ∈ ([] : List (List AV)) → e.length = 1) = True := eq_true (fun e he => by cases he)
          simp only [go_sem, a1, a3, a8, j4, z0, l0, List.length_map, htk, htk2, htk3, len_map (e := eIn) (sz := 1) (fun x => rfl), hkw, Nat.zero_le, and_self, if_true, hu, List.map_nil, hall, List.isEmpty_nil]
          refine VCall.frzq (as' := [.agg (eGr g), .ro ((w.take k ++ [(τ : Int)]).map eIn)]) 5 ?_ h74t ?_
          · simp only [rfs, List.mapM_cons]
            have hz : ∀ H : Heap, H (n + 11) = some (.cells [[.int .i64 (τ : Int)]]) → rf true 4 H (.sl (n + 11) 0 1 1) = some (.ro ((w.take k ++ [(τ : Int)]).map eIn)) := fun H hH => by
              have h1 := hfz H (n + 11) (by rw [hu]; exact hH)
              rwa [show k + 1 = 1 by omega] at h1
            rw [hz _ (by simp only [go_sem])]
            rfl
          simp only [go_sem]
          refine ⟨by kernel_rfl, ?_⟩
          exact nx20 _ _ _ (by omega) (by simp only [go_sem, z0, j4]) j5 j6 j7 j8 j9 j10 rfl
        · have hem : ((w.take k).map eIn).isEmpty = false := by
            rw [List.isEmpty_eq_false_iff]
            intro e
            exact hu (List.map_eq_nil_iff.1 e)
          have hlm : ((w.take k).map eIn).length = k := by rw [List.length_map, hlk]
          simp only [go_sem, a1, a3, a8, j4, z0, l0, List.length_map, htk, htk2, htk3, len_map (e := eIn) (sz := 1) (fun x => rfl), hkw, Nat.zero_le, and_self, if_true, hem, Bool.false_eq_true, if_false, hlm, show k * 8 ≤ 140737488355328 by omega, show (k + 1) * 8 ≤ 140737488355328 by omega, and_false, show n ≤ n + 5 by omega]
          refine VCall.frzq (as' := [.agg (eGr g), .ro ((w.take k ++ [(τ : Int)]).map eIn)]) 5 ?_ h74t ?_
          · simp only [rfs, List.mapM_cons]
            rw [hfz _ (n + 11) (by simp only [go_sem, List.map_append]; rfl)]
            rfl
          simp only [go_sem]
          refine ⟨by kernel_rfl, ?_⟩
          exact nx20 _ _ _ (by omega) (by simp only [go_sem, z0, j4]) j5 j6 j7 j8 j9 j10 rfl
      · refine W.exit ?_
        simp only [go_sem]
        have hτ : τ = T := by simp at hc; omega
        rw [hτ] at j12
        exact nx17 _ _ _ b (by omega) j4 j5 j6 j10 j11 j12
    clear hK
    have iM : (i : Int) < (M : Int) := by omega
    cases hs1 : spanF g w i 0 w.length with
    | true =>
      have hO := law1 hs1
      cases hs2 : spanF g w i 0 k with
      | true =>
        have hE := law2 hs2
        simp only [go_sem, a7, a1, a8, a9, e3_get hi, e2_get (show 0 < w.length + 1 by omega), e1_get (show w.length < w.length + 1 by omega), e1_get (show k < w.length + 1 by omega), hs1, hs2, hg0, eR_len, eR_get (show 24 < 25 by omega), eR_get (show i < 25 by omega), hO1, hO2, hE1, hE2, bit_zero, show (i : Int) < 24 by omega, Nat.mul_one, show i + 1 ≤ 25 by omega, hO, hE]
        exact nx13 _ _ _ (by omega) i4 i5 i6 rfl rfl
      | false =>
        simp only [go_sem, a7, a1, a8, a9, e3_get hi, e2_get (show 0 < w.length + 1 by omega), e1_get (show w.length < w.length + 1 by omega), e1_get (show k < w.length + 1 by omega), hs1, hs2, hg0, eR_len, eR_get (show 24 < 25 by omega), eR_get (show i < 25 by omega), hO1, hO2, hE1, hE2, bit_zero, show (i : Int) < 24 by omega, Nat.mul_one, show i + 1 ≤ 25 by omega, hO]
        exact nx13 _ _ _ (by omega) i4 i5 i6 rfl rfl
    | false =>
      cases hs2 : spanF g w i 0 k with
      | true =>
        have hE := law2 hs2
        simp only [go_sem, a7, a1, a8, a9, e3_get hi, e2_get (show 0 < w.length + 1 by omega), e1_get (show w.length < w.length + 1 by omega), e1_get (show k < w.length + 1 by omega), hs1, hs2, hg0, eR_len, eR_get (show 24 < 25 by omega), eR_get (show i < 25 by omega), hO1, hO2, hE1, hE2, bit_zero, show (i : Int) < 24 by omega, Nat.mul_one, show i + 1 ≤ 25 by omega, hE]
        exact nx13 _ _ _ (by omega) i4 i5 i6 rfl rfl
      | false =>
        simp only [go_sem, a7, a1, a8, a9, e3_get hi, e2_get (show 0 < w.length + 1 by omega), e1_get (show w.length < w.length + 1 by omega), e1_get (show k < w.length + 1 by omega), hs1, hs2, hg0, eR_len, eR_get (show 24 < 25 by omega), eR_get (show i < 25 by omega), hO1, hO2, hE1, hE2, bit_zero, show (i : Int) < 24 by omega, Nat.mul_one, show i + 1 ≤ 25 by omega]
        exact nx13 _ _ _ (by omega) i4 i5 i6 rfl rfl
  · refine W.exit ?_
    simp only [go_sem]
    exact nx0 _ _ _

theorem f22' (g : Gr) (hg : g.Small) (w : List Int) (n : Int) (hn : 0 ≤ n ∧ n < 256) : FH pg Tq 22 [.agg (eGr g), .ro (w.map eIn), .int .u8 n] h0 0 fun r _ _ => r = .bool true := by
  obtain ⟨k, rfl⟩ := Int.eq_ofNat_of_zero_le hn.1
  exact f22 g hg w k (by omega)

end Go.Av
