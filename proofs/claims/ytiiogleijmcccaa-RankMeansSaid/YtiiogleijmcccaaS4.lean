/-
  What comes of grammars, by definition: which part of a word comes of each nonterminal. Conditions: none.
-/
import Derived.Test.YtiiogleijmcccaaS3
import Derived.Test.YtiiogleijmcccaaC9c
namespace Go.Av
open Go.Proofs
set_option maxRecDepth 100000
set_option linter.unusedSimpArgs false
set_option linter.unusedVariables false

/-- A grammar whose nonterminals are there. -/
def Gr.Dom (g : Gr) : Prop := 1 ≤ g.nons ∧ g.nons < 2 ^ 30 ∧ ∀ p ∈ g.prods, ((0 ≤ p.left ∧ p.left < g.nons) ∧ p.right.length < 2 ^ 30) ∧ ∀ s ∈ p.right, s.non = true → 0 ≤ s.n ∧ s.n < g.nons

theorem right_dom {g : Gr} (h : right g = true) : g.Dom := by
  obtain ⟨h1, _, _, _, h5⟩ := right_in h
  refine ⟨h1.1, by omega, fun p hp => ⟨⟨(h5 p hp).1, by have := (h5 p hp).2.1; omega⟩, fun s hs hn => ?_⟩⟩
  have := (h5 p hp).2.2 s hs
  rw [if_pos hn] at this
  exact this

def symF (w : List Int) (F : Nat → Nat → Nat → Bool) (s : Sy) : Nat → Nat → Bool := if s.non then F s.n.toNat else tokF w s.n

/-- Does a part of a word come of a nonterminal? -/
noncomputable def spanF (g : Gr) (w : List Int) (i a b : Nat) : Bool := @decide (Der g w [⟨true, (i : Int)⟩] a b) (Classical.propDecidable _)

theorem spanF_iff {g : Gr} {w : List Int} {i a b : Nat} : spanF g w i a b = true ↔ Der g w [⟨true, (i : Int)⟩] a b := by
  unfold spanF
  exact @decide_eq_true_iff _ (Classical.propDecidable _)

/-- All that is said holds. -/
def Sd (g : Gr) (w : List Int) (M N : Nat) (F : Nat → Nat → Nat → Bool) : Prop := ∀ i a b, i < M → a < N → b < N → F i a b = true → Der g w [⟨true, (i : Int)⟩] a b

def closedAt (w : List Int) (F : Nat → Nat → Nat → Bool) (p : Pr) (a b : Nat) : Prop := Ch (p.right.map (symF w F)) a b → F p.left.toNat a b = true

theorem Ch.le : ∀ {l : List (Nat → Nat → Bool)} {a c : Nat}, Ch l a c → a ≤ c
  | [], a, c, h => by cases h; exact Nat.le_refl _
  | f :: l, a, c, ⟨b, h1, _, h3⟩ => Nat.le_trans h1 (Ch.le h3)

theorem ch_der {g : Gr} {w : List Int} {M N : Nat} {F : Nat → Nat → Nat → Bool} (hN : w.length + 1 = N) (hM : (M : Int) = g.nons) (hs : Sd g w M N F) : ∀ (l : List Sy) (a c : Nat), (∀ s ∈ l, s.non = true → 0 ≤ s.n ∧ s.n < g.nons) → c < N → Ch (l.map (symF w F)) a c → Der g w l a c
  | [], a, c, _, hc, h => by cases h; exact .nil (by omega)
  | s :: l, a, c, hd, hc, ⟨b, h1, h2, h3⟩ => by
    have hb := Ch.le h3
    have ih := ch_der hN hM hs l b c (fun s hs => hd s (by simp [hs])) hc h3
    obtain ⟨sn, n⟩ := s
    cases sn with
    | true =>
      have hr := hd ⟨true, n⟩ (by simp) rfl
      have h2' : F n.toNat a b = true := h2
      have := hs n.toNat a b (by simp only at hr; omega) (by omega) (by omega) h2'
      rw [show ((n.toNat : Nat) : Int) = n by simp only at hr; omega] at this
      exact this.append ih
    | false =>
      have h2' : tokF w n a b = true := h2
      unfold tokF at h2'
      simp only [Bool.and_eq_true, decide_eq_true_eq] at h2'
      obtain ⟨rfl, h4⟩ := h2'
      exact .term h4 ih

theorem der_ch {g : Gr} {w : List Int} {F : Nat → Nat → Nat → Bool} (hc : ∀ p ∈ g.prods, ∀ a b, a < w.length + 1 → b < w.length + 1 → closedAt w F p a b) {l : List Sy} {a c : Nat} (h : Der g w l a c) : Ch (l.map (symF w F)) a c := by
  induction h with
  | nil h => rfl
  | @term t l a c h hl ih => exact ⟨a + 1, by omega, by simp [symF, tokF, h], ih⟩
  | @non p l a b c hp hr hl ih1 ih2 =>
    have h1 := hr.le
    exact ⟨b, h1.1, hc p hp a b (by omega) (by omega) ih1, ih2⟩

theorem span_same {g : Gr} {w : List Int} {M N : Nat} {F : Nat → Nat → Nat → Bool} (hN : w.length + 1 = N) (hM : (M : Int) = g.nons) (hs : Sd g w M N F) (hc : ∀ p ∈ g.prods, ∀ a b, a < N → b < N → closedAt w F p a b) : ∀ i a b, i < M → a < N → b < N → F i a b = spanF g w i a b := by
  intro i a b hi ha hb
  rw [Bool.eq_iff_iff, spanF_iff]
  refine ⟨hs i a b hi ha hb, fun h => ?_⟩
  obtain ⟨b', h1, h2, h3⟩ := der_ch (fun p hp a b h1 h2 => hc p hp a b (by omega) (by omega)) h
  cases h3
  simpa [symF] using h2

theorem T3.congr {h : Heap} {lo hi top : Nat} {cut mid : Nat → Nat} {leaf : Nat → Nat → Nat} {n m k : Nat} {f g : Nat → Nat → Nat → Bool} (t : T3 h lo hi top cut mid leaf n m k f) (e : ∀ i a b, i < n → a < m → b < k → f i a b = g i a b) : T3 h lo hi top cut mid leaf n m k g :=
  ⟨t.lob, t.mono, t.hib, t.up, t.top, fun i hi => (t.tab i hi).congr fun a b ha hb => e i a b hi ha hb⟩

/-- What stands at all places of the walk. -/
structure SpC (g : Gr) (w : List Int) (lo hi top : Nat) (cut mid : Nat → Nat) (leaf : Nat → Nat → Nat) (M N : Nat) (t : Fr) (h : Heap) (n : Nat) (F : Nat → Nat → Nat → Bool) : Prop where
  e1 : t 1 = .ro (w.map eIn)
  e2 : t 2 = .ptr 0 0 0
  e5 : t 5 = .sl top 0 M 1
  m0 : h 0 = some (.cells [eGr g])
  T : T3 h lo hi top cut mid leaf M N N F
  hn : hi ≤ n

theorem SpC.next {g : Gr} {w : List Int} {lo hi top : Nat} {cut mid : Nat → Nat} {leaf : Nat → Nat → Nat} {M N : Nat} {t t' : Fr} {h h' : Heap} {n n' : Nat} {F : Nat → Nat → Nat → Bool} (c : SpC g w lo hi top cut mid leaf M N t h n F)
    (k1 : t' 1 = t 1) (k2 : t' 2 = t 2) (k5 : t' 5 = t 5) (kh : ∀ x, x < hi → h' x = h x) (kn : n ≤ n') : SpC g w lo hi top cut mid leaf M N t' h' n' F :=
  ⟨k1.trans c.e1, k2.trans c.e2, k5.trans c.e5, (kh 0 (by have := c.T.hib; omega)).trans c.m0, c.T.frame fun x _ hx => kh x hx, Nat.le_trans c.hn kn⟩

/-- A row's table: live, or frozen. -/
def symV (w : List Int) (mid : Nat → Nat) (N : Nat) (s : Sy) : List AV := [if s.non then .sl (mid s.n.toNat) 0 N 1 else .ro (e2 N N (tokF w s.n))]

theorem rfe_sym {g : Gr} {w : List Int} {lo hi top : Nat} {cut mid : Nat → Nat} {leaf : Nat → Nat → Nat} {M N : Nat} {h : Heap} {F : Nat → Nat → Nat → Bool} {d : Nat} (T : T3 h lo hi top cut mid leaf M N N F) (hM : (M : Int) = g.nons) {l : List Sy} (hd : ∀ s ∈ l, s.non = true → 0 ≤ s.n ∧ s.n < g.nons) :
    rfe true (d + 9) h (l.map (symV w mid N)) = some (l.map fun s => [.ro (e2 N N (symF w F s))]) :=
  rfe_map fun s hs => by
    obtain ⟨sn, n⟩ := s
    cases sn with
    | true =>
      have hr := hd ⟨true, n⟩ hs rfl
      simp only at hr
      exact rfs_one (T.tab n.toNat (by omega)).frz
    | false => exact rfs_one (by simp [rf, symF])

theorem sd_set {g : Gr} {w : List Int} {M N i a b : Nat} {F : Nat → Nat → Nat → Bool} (h : Sd g w M N F) (hd : Der g w [⟨true, (i : Int)⟩] a b) : Sd g w M N (fun i' a' b' => if i' = i ∧ a' = a ∧ b' = b then true else F i' a' b') := by
  intro i' a' b' h1 h2 h3 h4
  by_cases e : i' = i ∧ a' = a ∧ b' = b
  · obtain ⟨rfl, rfl, rfl⟩ := e; exact hd
  · simp only [e, if_false] at h4
    exact h i' a' b' h1 h2 h3 h4

/-- The rows of a production's symbols. -/
def RowL (w : List Int) (mid : Nat → Nat) (N x' : Nat) (r : List Sy) (h : Heap) (n : Nat) (v : AV) : Prop :=
  (r = [] ∧ v = .nils) ∨ ∃ bl, v = .sl bl 0 r.length 1 ∧ x' ≤ bl ∧ bl < n ∧ h bl = some (.cells (r.map (symV w mid N)))

theorem RowL.next {w : List Int} {mid : Nat → Nat} {N x' : Nat} {r : List Sy} {h h' : Heap} {n n' : Nat} {v v' : AV} (c : RowL w mid N x' r h n v) (hv : v' = v) (hh : ∀ x, x' ≤ x → x < n → h' x = h x) (hn : n ≤ n') : RowL w mid N x' r h' n' v' := by
  subst hv
  rcases c with c | ⟨bl, c1, c2, c3, c4⟩
  · exact .inl c
  · exact .inr ⟨bl, c1, c2, by omega, (hh bl c2 c3).trans c4⟩

theorem RowL.frz {g : Gr} {w : List Int} {lo hi top : Nat} {cut mid : Nat → Nat} {leaf : Nat → Nat → Nat} {M N x' n : Nat} {r : List Sy} {h : Heap} {F : Nat → Nat → Nat → Bool} {v : AV} {d : Nat} (c : RowL w mid N x' r h n v) (T : T3 h lo hi top cut mid leaf M N N F) (hM : (M : Int) = g.nons)
    (hd : ∀ s ∈ r, s.non = true → 0 ≤ s.n ∧ s.n < g.nons) : rf true (d + 10) h v = some (.ro ((r.map (symF w F)).map fun f => [.ro (e2 N N f)])) := by
  rw [List.map_map]
  rcases c with ⟨rfl, rfl⟩ | ⟨bl, rfl, c2, c3, c4⟩
  · simp [rf]
  · exact rf_sla c4 (by simp) (rfe_sym T hM hd)

theorem f36 (g : Gr) (hg : g.Small) (hdm : g.Dom) (w : List Int) (hw : w.length < 2 ^ 30) : PF pg Tq 36 [.agg (eGr g), .ro (w.map eIn)] (.ro (e3 g.nons.toNat (w.length + 1) (w.length + 1) (spanF g w))) := by
  generalize hN : w.length + 1 = N
  obtain ⟨hd1, hd2, hd3⟩ := hdm
  have hgl : g.prods.length < 2 ^ 60 := hg.1
  generalize hMM : g.nons.toNat = M
  have hM : (M : Int) = g.nons := by omega
  have fin : FH pg Tq 36 [.agg (eGr g), .ro (w.map eIn)] h0 0 fun r h _ => ∃ lo hi top cut mid leaf, r = .sl top 0 M 1 ∧ T3 h lo hi top cut mid leaf M N N (spanF g w) := by
    refine FH.of (N := 120) (rs := #[.tmp 4]) Try.func36 rfl rfl (of_decide_eq_true rfl) rfl (by decide) ?_
    refine W.rseq (k := 2) rfl fun K hK => ?_
    simp only [go_sem]
    refine hK _ _ _ ?_
    clear hK K
    refine W.rseq (k := 6) rfl fun K hK => ?_
    simp only [go_sem]
    rw [← hM]
    refine VCall.heap (f89 M w.length (by omega) (by omega) (by omega) _ _) fun r h' x' ⟨top, cut, mid, leaf, er, hx, T, hfr⟩ => ?_
    subst er
    rw [hN] at T
    simp only [go_sem]
    refine hK _ _ _ ?_
    clear hK K
    have m0 : h' 0 = some (.cells [eGr g]) := (hfr 0 (by omega)).trans (by simp only [go_sem, hM])
    refine W.seq ?_
    refine W.rseq (k := 1) rfl fun K hK => ?_
    simp only [go_sem]
    refine hK _ _ _ ?_
    clear hK K
    refine W.block (W.while (fun m t h n => ∃ (F : Nat → Nat → Nat → Bool) (more : Bool), m = 2 * falses M N N F + (if more then 1 else 0) ∧ SpC g w 8 x' top cut mid leaf M N t h n F ∧ t 6 = .bool more ∧ Sd g w M N F ∧ (more = false → ∀ p ∈ g.prods, ∀ a b, a < N → b < N → closedAt w F p a b)) _
      ⟨fun _ _ _ => false, true, rfl, ⟨rfl, rfl, rfl, m0, T, by omega⟩, rfl, fun _ _ _ _ _ _ h => (by cases h), fun h => (by cases h)⟩ fun m t h n ⟨F, more, i1, i2, i3, i4, i5⟩ => ?_)
    refine W.seq ?_
    refine W.rseq (k := 1) rfl fun K hK => ?_
    simp only [go_sem, i3]
    refine hK _ _ _ ?_
    clear hK K
    refine W.cond rfl (fun hmo => ?_) fun hmo => ?_
    · refine W.skip ?_
      simp only [go_sem]
      subst hmo
      refine W.block ?_
      refine W.rseq (k := 1) rfl fun K hK => ?_
      simp only [go_sem]
      refine hK _ _ _ ?_
      clear hK K
      refine W.rseq (k := 1) rfl fun K hK => ?_
      simp only [go_sem]
      refine hK _ _ _ ?_
      clear hK K
      obtain ⟨f0, hf0⟩ : ∃ f0, f0 = falses M N N F := ⟨_, rfl⟩
      refine W.block (W.while (fun m t h n => ∃ (i : Nat) (F : Nat → Nat → Nat → Bool) (more : Bool), m = g.prods.length - i ∧ i ≤ g.prods.length ∧ SpC g w 8 x' top cut mid leaf M N t h n F ∧ t 6 = .bool more ∧ t 7 = .int .i64 i ∧ Sd g w M N F ∧ falses M N N F ≤ f0 ∧ (more = true → falses M N N F < f0) ∧
          (more = false → ∀ j p, j < i → g.prods[j]? = some p → ∀ a b, a < N → b < N → closedAt w F p a b)) g.prods.length
        ⟨0, F, false, by simp, by simp, i2.next rfl rfl rfl (fun x hx => by simp only [go_sem]) (by omega), rfl, rfl, i4, by omega, fun h => (by cases h), fun _ j p h => (by omega)⟩ fun m2 t h n ⟨i, F, more, j1, j2, c, j6, j7, jS, jl, jm, jc⟩ => ?_)
      have i1' : m = 2 * f0 + 1 := by simpa [hf0] using i1
      clear i1 i2 i3 i4 i5
      refine W.seq ?_
      refine W.rseq (k := 5) rfl fun K hK => ?_
      simp only [go_sem, c.e2, c.m0, j7]
      refine hK _ _ _ ?_
      clear hK K
      refine W.cond rfl (fun hc => ?_) fun hc => ?_
      · refine W.skip ?_
        simp only [go_sem]
        have hi : i < g.prods.length := by simp at hc; omega
        obtain ⟨p, hp⟩ := get_some hi
        have hpm : p ∈ g.prods := List.mem_of_getElem? hp
        obtain ⟨⟨⟨hl0, hl1⟩, hpl⟩, hdr⟩ := hd3 p hpm
        refine W.seq (W.block ?_)
        refine W.rseq (k := 2) rfl fun K hK => ?_
        simp only [go_sem]
        refine hK _ _ _ ?_
        clear hK K
        refine W.seq ?_
        refine W.rseq (k := 1) rfl fun K hK => ?_
        simp only [go_sem]
        refine hK _ _ _ ?_
        clear hK K
        refine W.block (W.while (fun m t h n => ∃ (k : Nat), m = p.right.length - k ∧ k ≤ p.right.length ∧ SpC g w 8 x' top cut mid leaf M N t h n F ∧ t 6 = .bool more ∧ t 7 = .int .i64 i ∧ t 9 = .int .i64 k ∧
            ((k = 0 ∧ t 8 = .nils) ∨ ∃ bl, t 8 = .sl bl 0 k 1 ∧ x' ≤ bl ∧ bl < n ∧ h bl = some (.cells ((p.right.take k).map (symV w mid N))))) p.right.length
          ⟨0, by simp, by simp, c.next rfl rfl rfl (fun x hx => by simp only [go_sem]) (by omega), j6, j7, rfl, .inl ⟨rfl, rfl⟩⟩ fun m3 t h n ⟨k, k1, k2, ck, k6, k7, k9, k8⟩ => ?_)
        refine W.seq ?_
        refine W.rseq (k := 9) rfl fun K hK => ?_
        simp only [go_sem, ck.e2, ck.m0, k7, k9, hp]
        refine hK _ _ _ ?_
        clear hK K
        refine W.cond rfl (fun hc2 => ?_) fun hc2 => ?_
        · refine W.skip ?_
          simp only [go_sem]
          have hk : k < p.right.length := by simp at hc2; omega
          obtain ⟨s, hs⟩ := get_some hk
          have hsm : s ∈ p.right := List.mem_of_getElem? hs
          have htk : (p.right.take (k + 1)).map (symV w mid N) = (p.right.take k).map (symV w mid N) ++ [symV w mid N s] := by
            rw [List.take_add_one, hs, List.map_append]; rfl
          refine W.seq (W.block ?_)
          refine W.rseq (k := 11) rfl fun K hK => ?_
          simp only [go_sem, ck.e2, ck.m0, k7, k9, hp, hs]
          refine hK _ _ _ ?_
          clear hK K
          have hn' := ck.hn
          have htop := ck.T.hib
          obtain ⟨sn, sx⟩ := s
          refine W.rseq (k := 2) rfl fun K hK => ?_
          simp only [go_sem]
          refine hK _ _ _ ?_
          clear hK K
          cases sn with
          | true =>
            have hr := hdr _ hsm rfl
            simp only at hr
            obtain ⟨ν, rfl⟩ : ∃ ν : Nat, sx = ν := ⟨sx.toNat, by omega⟩
            have hsv : symV w mid N ⟨true, (ν : Int)⟩ = [.sl (mid ν) 0 N 1] := by simp [symV]
            refine W.condT (by simp only [go_sem]) ?_
            rcases k8 with ⟨rfl, k8⟩ | ⟨bl, k8, w1, w2, w3⟩
            · refine W.region (k := 9) rfl ?_
              simp only [go_sem, k8, ck.e5, ck.T.top, slL_get (k := N) (f := mid) (show ν < M by omega), show (ν : Int) < (M : Int) by omega, show ∀ k, ¬ (top = n + k) from fun k => by omega, show (0 : Nat) < 24 by omega]
              refine W.region (k := 3) rfl ?_
              simp only [go_sem, k9]
              refine ⟨p.right.length - 1, by omega, 1, rfl, by omega, ck.next rfl rfl rfl (fun x hx => by simp only [go_sem, show ∀ k, ¬ (x = n + k) from fun k => by omega]) (by omega), k6, k7, ?_, .inr ⟨_, rfl, by omega, by omega, ?_⟩⟩
              · rw [wrap64 (by omega) (by omega)]; rfl
              · rw [htk, hsv]; simp [upd]
            · refine W.region (k := 9) rfl ?_
              simp only [go_sem, k8, w3, ck.e5, ck.T.top, slL_get (k := N) (f := mid) (show ν < M by omega), show (ν : Int) < (M : Int) by omega, show ∀ k, ¬ (top = n + k) from fun k => by omega, show ∀ k, ¬ (bl = n + k) from fun k => by omega, show (0 : Nat) < 24 by omega, List.length_map, List.length_take, Nat.min_eq_left k2, show (k + 1) * 24 ≤ 140737488355328 by omega, show ¬ (k + 1 ≤ k) by omega]
              refine W.region (k := 3) rfl ?_
              simp only [go_sem, k9]
              refine ⟨p.right.length - (k + 1), by omega, k + 1, rfl, by omega, ck.next rfl rfl rfl (fun x hx => by simp only [go_sem, show ∀ k, ¬ (x = n + k) from fun k => by omega, show ¬ x = bl by omega]) (by omega), k6, k7, ?_, .inr ⟨_, rfl, by omega, by omega, ?_⟩⟩
              · rw [wrap64 (by omega) (by omega)]; rfl
              · rw [htk, hsv]; simp [upd]
          | false =>
            have hsv : symV w mid N ⟨false, sx⟩ = [.ro (e2 N N (tokF w sx))] := by simp [symV]
            have h90 : PF pg Tq 90 [.ro (w.map eIn), .int .i64 sx] (.ro (e2 N N (tokF w sx))) := by rw [← hN]; exact f90 w sx (by omega)
            refine W.condF (by simp only [go_sem]) ?_
            rcases k8 with ⟨rfl, k8⟩ | ⟨bl, k8, w1, w2, w3⟩
            · refine W.region (k := 8) rfl ?_
              simp only [go_sem, k8, ck.e1, show (0 : Nat) < 24 by omega]
              refine VCall.frz 6 h90 rfl ?_
              try simp only [go_sem, k8, ck.e1, show (0 : Nat) < 24 by omega]
              refine W.region (k := 3) rfl ?_
              simp only [go_sem, k9]
              refine ⟨p.right.length - 1, by omega, 1, rfl, by omega, ck.next rfl rfl rfl (fun x hx => by simp only [go_sem, show ∀ k, ¬ (x = n + k) from fun k => by omega]) (by omega), k6, k7, ?_, .inr ⟨_, rfl, by omega, by omega, ?_⟩⟩
              · rw [wrap64 (by omega) (by omega)]; rfl
              · rw [htk, hsv]; simp [upd]
            · refine W.region (k := 8) rfl ?_
              simp only [go_sem, k8, w3, ck.e1, show ∀ k, ¬ (bl = n + k) from fun k => by omega, show (0 : Nat) < 24 by omega, List.length_map, List.length_take, Nat.min_eq_left k2, show (k + 1) * 24 ≤ 140737488355328 by omega, show ¬ (k + 1 ≤ k) by omega]
              refine VCall.frz 6 h90 rfl ?_
              try simp only [go_sem, k8, w3, ck.e1, show ∀ k, ¬ (bl = n + k) from fun k => by omega, show (0 : Nat) < 24 by omega, List.length_map, List.length_take, Nat.min_eq_left k2, show (k + 1) * 24 ≤ 140737488355328 by omega, show ¬ (k + 1 ≤ k) by omega]
              refine W.region (k := 3) rfl ?_
              simp only [go_sem, k9]
              refine ⟨p.right.length - (k + 1), by omega, k + 1, rfl, by omega, ck.next rfl rfl rfl (fun x hx => by simp only [go_sem, show ∀ k, ¬ (x = n + k) from fun k => by omega, show ¬ x = bl by omega]) (by omega), k6, k7, ?_, .inr ⟨_, rfl, by omega, by omega, ?_⟩⟩
              · rw [wrap64 (by omega) (by omega)]; rfl
              · rw [htk, hsv]; simp [upd]
        · refine W.exit ?_
          simp only [go_sem]
          have hk : k = p.right.length := by simp at hc2; omega
          subst hk
          have hrow : RowL w mid N x' p.right h n (t 8) := by
            rcases k8 with ⟨e, k8⟩ | ⟨bl, k8, w1, w2, w3⟩
            · exact .inl ⟨List.length_eq_zero_iff.1 e, k8⟩
            · rw [List.take_length] at w3
              exact .inr ⟨bl, k8, w1, w2, w3⟩
          refine W.rseq (k := 1) rfl fun K hK => ?_
          simp only [go_sem]
          refine hK _ _ _ ?_
          clear hK K
          refine W.block (W.while (fun m t h n => ∃ (a : Nat) (F : Nat → Nat → Nat → Bool) (more : Bool), m = N - a ∧ a ≤ N ∧ SpC g w 8 x' top cut mid leaf M N t h n F ∧ t 6 = .bool more ∧ t 7 = .int .i64 i ∧ RowL w mid N x' p.right h n (t 8) ∧ t 11 = .int .i64 a ∧ Sd g w M N F ∧ falses M N N F ≤ f0 ∧ (more = true → falses M N N F < f0) ∧
              (more = false → (∀ j p, j < i → g.prods[j]? = some p → ∀ a b, a < N → b < N → closedAt w F p a b) ∧ ∀ a' b, a' < a → b < N → closedAt w F p a' b)) N
            ⟨0, F, more, by simp, by simp, ck.next rfl rfl rfl (fun x hx => by simp only [go_sem]) (by omega), k6, k7, hrow.next rfl (fun x _ _ => by simp only [go_sem]) (by omega), rfl, jS, jl, jm, fun e => ⟨jc e, fun a' b h => (by omega)⟩⟩ fun m4 t h n ⟨a, F, more, l1, l2, cl, l6, l7, l8, l11, lS, ll, lm, lc⟩ => ?_)
          clear hrow k8 ck k6 k7 k9 c j6 j7 jS jl jm jc
          refine W.seq ?_
          refine W.rseq (k := 4) rfl fun K hK => ?_
          simp only [go_sem, cl.e1, l11]
          refine hK _ _ _ ?_
          clear hK K
          refine W.cond rfl (fun hc3 => ?_) fun hc3 => ?_
          · refine W.skip ?_
            simp only [go_sem]
            have ha : a < N := by simp at hc3; omega
            refine W.seq (W.block ?_)
            have h91 : PF pg Tq 91 [.ro ((p.right.map (symF w F)).map fun f => [.ro (e2 N N f)]), .int .i64 a, .int .i64 w.length] (.ro (e1 N (rowF (p.right.map (symF w F)) a))) := by
              rw [← hN]; exact f91 _ a w.length (by rw [List.length_map]; omega) (by omega) (by omega)
            refine W.rseq (k := 6) rfl fun K hK => ?_
            simp only [go_sem, cl.e1, l11]
            refine VCall.frzq 20 (rfs_cons (l8.frz cl.T hM hdr) (rfs_cons rfl (rfs_cons rfl rfs_nil))) h91 ?_
            try simp only [go_sem, cl.e1, l11]
            refine hK _ _ _ ?_
            clear hK K
            refine W.rseq (k := 2) rfl fun K hK => ?_
            simp only [go_sem, l11]
            refine hK _ _ _ ?_
            clear hK K
            have cln := cl.hn
            refine W.block (W.while (fun m t h n => ∃ (b : Nat) (G : Nat → Nat → Nat → Bool) (more : Bool), m = N - b ∧ a ≤ b ∧ b ≤ N ∧ SpC g w 8 x' top cut mid leaf M N t h n G ∧ t 6 = .bool more ∧ t 7 = .int .i64 i ∧ RowL w mid N x' p.right h n (t 8) ∧ t 11 = .int .i64 a ∧ t 12 = .ro (e1 N (rowF (p.right.map (symF w F)) a)) ∧ t 13 = .int .i64 b ∧
                Sd g w M N G ∧ falses M N N G ≤ f0 ∧ (more = true → falses M N N G < f0) ∧
                (more = false → G = F ∧ (∀ j p, j < i → g.prods[j]? = some p → ∀ a b, a < N → b < N → closedAt w G p a b) ∧ (∀ a' b, a' < a → b < N → closedAt w G p a' b) ∧ ∀ b', b' < b → closedAt w G p a b')) (N - a)
              ⟨a, F, more, rfl, by omega, by omega, cl.next rfl rfl rfl (fun x hx => by simp only [go_sem]) (by omega), l6, l7, l8.next rfl (fun x _ _ => by simp only [go_sem]) (by omega), l11, rfl, rfl, lS, ll, lm,
                fun e => ⟨rfl, (lc e).1, (lc e).2, fun b' hb' hch => (by have := hch.le; omega)⟩⟩ fun m5 t h n ⟨b, G, mo, q1, q2, q3, cq, q6, q7, q8, q11, q12, q13, qS, ql, qm, qc⟩ => ?_)
            refine W.seq ?_
            refine W.rseq (k := 4) rfl fun K hK => ?_
            simp only [go_sem, cq.e1, q13]
            refine hK _ _ _ ?_
            clear hK K
            refine W.cond rfl (fun hc4 => ?_) fun hc4 => ?_
            · refine W.skip ?_
              simp only [go_sem]
              have hb : b < N := by simp at hc4; omega
              refine W.seq (W.block ?_)
              obtain ⟨ν, hν⟩ : ∃ ν : Nat, p.left = ν := ⟨p.left.toNat, by omega⟩
              have hνM : ν < M := by omega
              have tab := cq.T.tab ν hνM
              have hrow := tab.row a ha
              unfold T1 at hrow
              refine W.rseq (k := 22) rfl fun K hK => ?_
              cases hat : rowF (p.right.map (symF w F)) a b
              · simp only [go_sem, q12, q13, e1_get (f := rowF (p.right.map (symF w F)) a) hb, hat]
                refine hK _ _ _ ?_
                clear hK K
                refine W.condF (by simp only [go_sem]) ?_
                refine W.skip ?_
                simp only [go_sem]
                refine W.region (k := 3) rfl ?_
                simp only [go_sem, q13]
                refine ⟨N - (b + 1), by omega, b + 1, G, mo, rfl, by omega, by omega, cq.next rfl rfl rfl (fun x hx => by simp only [go_sem]) (by omega), q6, q7, q8.next rfl (fun x _ _ => by simp only [go_sem]) (by omega), q11, q12, ?_, qS, ql, qm, fun e => ?_⟩
                · rw [wrap64 (by omega) (by omega)]; rfl
                · obtain ⟨y1, y2, y3, y4⟩ := qc e
                  refine ⟨y1, y2, y3, fun b' hb' => ?_⟩
                  by_cases eb : b' = b
                  · subst eb
                    subst y1
                    intro hch
                    rw [rowF_ch.2 hch] at hat
                    cases hat
                  · exact y4 b' (by omega)
              · have hch := rowF_ch.1 hat
                simp only [go_sem, q12, q13, q11, q7, e1_get (f := rowF (p.right.map (symF w F)) a) hb, hat, cq.e2, cq.e5, cq.m0, hp, hν, cq.T.top, slL_get (k := N) (f := mid) hνM, show (ν : Int) < (M : Int) by omega, tab.top, slL_get (k := N) (f := leaf ν) ha, show (a : Int) < (N : Int) by omega, show (b : Int) < (N : Int) by omega, hrow, e1_get (f := G ν a) hb]
                cases hG : G ν a b
                · refine hK _ _ _ ?_
                  clear hK K
                  refine W.condT (by simp only [go_sem]) ?_
                  refine W.rseq (k := 15) rfl fun K hK => ?_
                  simp only [go_sem, q13, q11, q7, cq.e2, cq.e5, cq.m0, hp, hν, cq.T.top, slL_get (k := N) (f := mid) hνM, show (ν : Int) < (M : Int) by omega, tab.top, slL_get (k := N) (f := leaf ν) ha, show (a : Int) < (N : Int) by omega, show (b : Int) < (N : Int) by omega, hrow, e1_get (f := G ν a) hb]
                  refine hK _ _ _ ?_
                  clear hK K
                  refine W.region (k := 1) rfl ?_
                  simp only [go_sem]
                  refine W.region (k := 3) rfl ?_
                  simp only [go_sem, q13]
                  have hle := tab.at' a ha
                  have hlf : leaf ν a < x' := by
                    have : cut (ν + 1) ≤ cut M := mono_le cq.T.mono (by omega)
                    have := cq.T.up
                    have := cq.T.hib
                    omega
                  have hlf0 : 8 ≤ leaf ν a := by
                    have : cut 0 ≤ cut ν := mono_le cq.T.mono (by omega)
                    have := cq.T.lob
                    omega
                  have hder : Der g w [⟨true, (ν : Int)⟩] a b := by
                    rw [← hν]
                    exact .non hpm (ch_der hN hM lS p.right a b hdr hb hch) (.nil (by omega))
                  refine ⟨N - (b + 1), by omega, b + 1, _, true, rfl, by omega, by omega, ⟨cq.e1, cq.e2, cq.e5, ?_, by simpa only [upd_app, e1_set, upd] using cq.T.set (i := ν) (a := a) (b := b) (v := true) hνM ha, by have := cq.hn; omega⟩, rfl, q7, q8.next rfl (fun x hx _ => by simp only [go_sem, show ¬ x = leaf ν a by omega]) (by omega), q11, q12, ?_, sd_set qS hder, ?_, fun _ => ?_, fun e => (by cases e)⟩
                  · simp only [go_sem, show ¬ 0 = leaf ν a by omega, cq.m0]
                  · rw [wrap64 (by omega) (by omega)]; rfl
                  · have := falses_set hνM ha hb hG; omega
                  · have := falses_set hνM ha hb hG; omega
                · refine hK _ _ _ ?_
                  clear hK K
                  refine W.condF (by simp only [go_sem]) ?_
                  refine W.skip ?_
                  simp only [go_sem]
                  refine W.region (k := 3) rfl ?_
                  simp only [go_sem, q13]
                  refine ⟨N - (b + 1), by omega, b + 1, G, mo, rfl, by omega, by omega, cq.next rfl rfl rfl (fun x hx => by simp only [go_sem]) (by omega), q6, q7, q8.next rfl (fun x _ _ => by simp only [go_sem]) (by omega), q11, q12, ?_, qS, ql, qm, fun e => ?_⟩
                  · rw [wrap64 (by omega) (by omega)]; rfl
                  · obtain ⟨y1, y2, y3, y4⟩ := qc e
                    refine ⟨y1, y2, y3, fun b' hb' => ?_⟩
                    by_cases eb : b' = b
                    · subst eb
                      intro _
                      rw [hν]; exact hG
                    · exact y4 b' (by omega)
            · refine W.exit ?_
              simp only [go_sem]
              have hb : b = N := by simp at hc4; omega
              subst hb
              refine W.region (k := 3) rfl ?_
              simp only [go_sem, q11]
              refine ⟨b - (a + 1), by omega, a + 1, G, mo, rfl, by omega, cq.next rfl rfl rfl (fun x hx => by simp only [go_sem]) (by omega), q6, q7, q8.next rfl (fun x _ _ => by simp only [go_sem]) (by omega), ?_, qS, ql, qm, fun e => ?_⟩
              · rw [wrap64 (by omega) (by omega)]; rfl
              · obtain ⟨y1, y2, y3, y4⟩ := qc e
                refine ⟨y2, fun a' b' h1 h2 => ?_⟩
                by_cases ea : a' = a
                · subst ea; exact y4 b' h2
                · exact y3 a' b' (by omega) h2
          · refine W.exit ?_
            simp only [go_sem]
            have ha : a = N := by simp at hc3; omega
            subst ha
            refine W.region (k := 3) rfl ?_
            simp only [go_sem, l7]
            refine ⟨g.prods.length - (i + 1), by omega, i + 1, F, more, rfl, by omega, cl.next rfl rfl rfl (fun x hx => by simp only [go_sem]) (by omega), l6, ?_, lS, ll, lm, fun e j q hj hq => ?_⟩
            · rw [wrap64 (by omega) (by omega)]; rfl
            · obtain ⟨y1, y2⟩ := lc e
              by_cases ej : j = i
              · subst ej
                rw [hp] at hq; cases hq
                exact fun a' b' h1 h2 => y2 a' b' h1 h2
              · exact y1 j q (by omega) hq
      · refine W.exit ?_
        simp only [go_sem]
        have hi : i = g.prods.length := by simp at hc; omega
        subst hi
        refine ⟨2 * falses M N N F + (if more then 1 else 0), ?_, F, more, rfl, c.next rfl rfl rfl (fun x hx => rfl) (by omega), j6, jS, fun e q hq a b ha hb => ?_⟩
        · cases more with
          | true => have := jm rfl; simp; omega
          | false => simp; omega
        · obtain ⟨j, hj⟩ := List.mem_iff_getElem?.1 hq
          exact jc e j q (List.getElem?_eq_some_iff.1 hj).1 hj a b ha hb
    · refine W.exit ?_
      simp only [go_sem]
      refine W.rseq (k := 2) rfl fun K hK => ?_
      simp only [go_sem, i2.e5]
      refine hK _ _ _ ?_
      clear hK K
      refine W.ret ?_
      simp only [go_sem]
      have hs := span_same hN hM i4 (i5 hmo)
      exact ⟨8, x', top, cut, mid, leaf, rfl, i2.T.congr hs⟩
  obtain ⟨r, h', n', hb, lo, hi, top, cut, mid, leaf, rfl, ht⟩ := fin
  exact ⟨_, h', n', hb, 10, fun fr => ht.frz⟩

end Go.Av

