/-
  Layer 17, package lead: a derivation, step by step. Conditions: none.
-/
import Derived.Test.YtiiogleijmcccaaZ4
namespace Go.Av
open Go.Proofs
set_option maxRecDepth 100000
set_option linter.unusedSimpArgs false
set_option linter.unusedVariables false

/-- Each nonterminal has a production, and a fact that shows one. -/
structure GoodG (g : Gr) : Prop where
  right : right g = true
  of : ∀ x : Int, 0 ≤ x → x < g.nons → prodsL g x ≠ []
  fact : ∀ x : Int, 0 ≤ x → x < g.nons → ∃ i : Nat, ((ranksL g true).getD x.toNat (0, 0)).2 = i ∧ i < g.prods.length ∧ ∃ p, g.prods[i]? = some p ∧ p.left = x

theorem fit_good {g : Gr} {w : List Int} (h : fitG g w = true) : GoodG g := by
  have hr := fit_right h
  obtain ⟨hlen, _, hsh, _⟩ := ranks_fin (terms := true) hr
  have hk : ∀ x : Int, 0 ≤ x → x < g.nons → ∃ i : Nat, ((ranksL g true).getD x.toNat (0, 0)).2 = i ∧ i < g.prods.length ∧ ∃ p, g.prods[i]? = some p ∧ p.left = x := by
    intro x h0 hx
    obtain ⟨f, hf⟩ := get_some (show x.toNat < (ranksL g true).length by omega)
    have hs := hsh x.toNat f hf
    rw [fitG, Bool.and_eq_true] at h
    have h1 := of_decide_eq_true h.1
    have hz : f.1 ≠ 0 := by
      intro hz
      cases hs : seek (zR (ranksL g true)) g.nons.toNat 0 with
      | some i =>
        rw [checkL, hr, hs] at h1
        cases h1
      | none =>
        have := seek_none hs x.toNat (by omega) (by omega)
        rw [zR, rk_get hf] at this
        simp [hz] at this
    rw [List.getD_eq_getElem?_getD, hf]
    show ∃ i : Nat, f.2 = i ∧ _
    unfold showAt at hs
    by_cases c1 : f.1 < 0
    · rw [if_pos c1] at hs; cases hs
    rw [if_neg c1, if_neg hz] at hs
    by_cases c2 : f.2 < 0
    · rw [if_pos c2] at hs; cases hs
    rw [if_neg c2] at hs
    cases hp : g.prods[f.2.toNat]? with
    | none => rw [hp] at hs; cases hs
    | some p =>
      rw [hp] at hs
      simp only [Bool.and_eq_true, decide_eq_true_eq] at hs
      exact ⟨f.2.toNat, by omega, (List.getElem?_eq_some_iff.1 hp).1, p, hp, by rw [hs.1]; omega⟩
  refine ⟨hr, fun x h0 hx => ?_, hk⟩
  obtain ⟨i, _, hi, p, hp, hl⟩ := hk x h0 hx
  intro e
  have : (i : Int) ∈ prodsL g x := prodsJ_mem.2 ⟨i, hi, rfl, p, hp, hl⟩
  rw [e] at this
  cases this

theorem GoodG.cand {g : Gr} (hg : GoodG g) {w : List Int} {kind : Int} {a : Nat} {x : Int} (h0 : 0 ≤ x) (hx : x < g.nons) {c : Int} (hc : c ∈ candL g w kind a x) : ∃ i : Nat, c = i ∧ i < g.prods.length ∧ ∃ p, g.prods[i]? = some p ∧ p.left = x := by
  have h1 : ∀ c ∈ prodsL g x, ∃ i : Nat, c = i ∧ i < g.prods.length ∧ ∃ p, g.prods[i]? = some p ∧ p.left = x := fun c hc => by
    obtain ⟨i, h1, h2, h3⟩ := prodsJ_mem.1 hc
    exact ⟨i, h2, h1, h3⟩
  rw [candL] at hc
  split at hc
  · rw [List.mem_singleton.1 hc]
    exact hg.fact x h0 hx
  · split at hc
    · exact h1 c (List.mem_reverse.1 hc)
    · exact h1 c hc

theorem try_some {g : Gr} {w : List Int} {rows : List (Nat → Nat)} {kind : Int} {T : List Lt} {a : Nat} : ∀ {cs : List Int} {c : Int} {L : List Lt}, tryL g w rows kind T a cs = some (c, L) → c ∈ cs ∧ L = layL w rows kind T (rightOf g c) ∧ (lastG w L).testBit a = true
  | [], c, L, h => by cases h
  | d :: cs, c, L, h => by
    rw [try_cons] at h
    split at h
    · rename_i hb
      injection h with h
      injection h with h1 h2
      subst h1 h2
      exact ⟨by simp, rfl, hb⟩
    · obtain ⟨h1, h2⟩ := try_some h
      exact ⟨by simp [h1], h2⟩

/-- A derivation, and how it ends. -/
def runL (g : Gr) (w : List Int) (rows : List (Nat → Nat)) (kind : Int) : Nat → List Lt → Nat → List Int → Int × List Int
  | 0, _, _, _ => (0, [])
  | _ + 1, [], _, out => (0, out)
  | k + 1, x :: T, a, out =>
    if x.1.non = true then
      if out.length = 2000 then (5, []) else match tryL g w rows kind T a (candL g w kind a x.1.n) with
        | none => (11, [])
        | some (c, L) => runL g w rows kind k L a (out ++ [c])
    else runL g w rows kind k T (min (a + 1) w.length) out

def muT (T : List Lt) (out : List Int) : Nat := (2000 - out.length) * 9 + T.length

/-- Nonterminals that are left are the grammar's. -/
def NtT (g : Gr) (T : List Lt) : Prop := ∀ x ∈ T, x.1.non = true → 0 ≤ x.1.n ∧ x.1.n < g.nons

theorem NtT.lay {g : Gr} {w : List Int} {rows : List (Nat → Nat)} {kind : Int} {T : List Lt} (h : NtT g T) : ∀ r : List Sy, (∀ s ∈ r, s.non = true → 0 ≤ s.n ∧ s.n < g.nons) → NtT g (layL w rows kind T r)
  | [], _ => h
  | s :: r, hs => fun x hx => by
    rw [lay_cons] at hx
    rcases List.mem_cons.1 hx with rfl | hx
    · exact hs s (by simp)
    · exact NtT.lay h r (fun y hy => hs y (by simp [hy])) x hx

theorem NtT.gd {g : Gr} (hr : right g = true) {T : List Lt} (h : NtT g T) (h2 : ∀ x ∈ T, x.2 < 2 ^ 32) : GdT T := fun x hx => ⟨h2 x hx, fun hn => by
  obtain ⟨⟨_, hn2⟩, _⟩ := right_in hr
  have := h x hx hn
  omega⟩

theorem run_term {g : Gr} {w : List Int} {rows : List (Nat → Nat)} {kind : Int} {k a : Nat} {x : Lt} {T : List Lt} {out : List Int} (h : x.1.non = false) : runL g w rows kind (k + 1) (x :: T) a out = runL g w rows kind k T (min (a + 1) w.length) out := by
  rw [runL, h, if_neg (by decide)]

theorem run_big {g : Gr} {w : List Int} {rows : List (Nat → Nat)} {kind : Int} {k a : Nat} {x : Lt} {T : List Lt} {out : List Int} (h : x.1.non = true) (ho : out.length = 2000) : runL g w rows kind (k + 1) (x :: T) a out = (5, []) := by
  rw [runL, h, if_pos rfl, if_pos ho]

theorem run_none {g : Gr} {w : List Int} {rows : List (Nat → Nat)} {kind : Int} {k a : Nat} {x : Lt} {T : List Lt} {out : List Int} (h : x.1.non = true) (ho : ¬ out.length = 2000) (ht : tryL g w rows kind T a (candL g w kind a x.1.n) = none) : runL g w rows kind (k + 1) (x :: T) a out = (11, []) := by
  rw [runL, h, if_pos rfl, if_neg ho, ht]

theorem run_some {g : Gr} {w : List Int} {rows : List (Nat → Nat)} {kind : Int} {k a : Nat} {x : Lt} {T L : List Lt} {c : Int} {out : List Int} (h : x.1.non = true) (ho : ¬ out.length = 2000) (ht : tryL g w rows kind T a (candL g w kind a x.1.n) = some (c, L)) : runL g w rows kind (k + 1) (x :: T) a out = runL g w rows kind k L a (out ++ [c]) := by
  rw [runL, h, if_pos rfl, if_neg ho, ht]

set_option maxHeartbeats 16000000 in
theorem f116 (bR : Nat) (g : Gr) (w : List Int) (rows : List (Nat → Nat)) (kind : Int) (h : Heap) (n : Nat) (T : List Lt) (a : Nat) (out : List Int) (tv ov : AV) (m : LM bR g w rows kind h n T a out tv ov)
    (hg : g.Small) (hG : GoodG g) (hw : rows.length = w.length + 1) (hr : rows.length ≤ 30) (hrw : RwIn rows) (hgd : GdT T) (hnt : NtT g T) (ha : a ≤ w.length) (ho : out.length ≤ 2000) (hB : T.length + 8 * (2000 - out.length) ≤ 2 ^ 20) (k : Nat) (hk : muT T out < k) :
    FH pg Tq 116 [.ptr bR 0 0] h n fun r h' n' => r = .int .i64 (runL g w rows kind k T a out).1 ∧ ((runL g w rows kind k T a out).1 = 0 → ∃ T' a' tv' ov', LM bR g w rows kind h' n' T' a' (runL g w rows kind k T a out).2 tv' ov') := by
  obtain ⟨⟨hn1, hn2⟩, _, _, hp60, h5⟩ := right_in hG.right
  obtain ⟨R, hR⟩ : ∃ R, R = runL g w rows kind k T a out := ⟨_, rfl⟩
  rw [← hR]
  refine FH.of (N := 69) (rs := #[.tmp 2]) Try.func116 rfl rfl (of_decide_eq_true rfl) rfl (by decide) ?_
  refine W.rseq (k := 1) rfl fun K hK => ?_
  simp only [go_sem]
  refine hK _ _ _ ?_
  clear hK K
  refine W.seqk fun K hK => ?_
  have nx0 : ∀ (t' : Fr) (h' : Heap) (n' : Nat) (a : Nat) (out : List Int) (tv ov : AV), R = (0, out) → LM bR g w rows kind h' n' [] a out tv ov → K t' h' n' := by
    intro t' h' n' a out tv ov q1 q2
    refine hK _ _ _ ?_
    clear hK K
    refine W.rseq (k := 1) rfl fun K hK => ?_
    simp only [go_sem]
    refine hK _ _ _ ?_
    clear hK K
    refine W.ret ?_
    simp only [go_sem]
    rw [q1]
    exact ⟨rfl, fun _ => ⟨[], a, tv, ov, q2.next (fun _ _ => rfl) (by omega)⟩⟩
  have nxE : True := trivial
  refine W.block (W.while (fun mm t h2 n2 => ∃ (T : List Lt) (a : Nat) (out : List Int) (tv ov : AV) (k : Nat), mm = muT T out ∧ muT T out < k ∧ runL g w rows kind k T a out = R ∧ LM bR g w rows kind h2 n2 T a out tv ov ∧ GdT T ∧ NtT g T ∧ a ≤ w.length ∧ out.length ≤ 2000 ∧ T.length + 8 * (2000 - out.length) ≤ 2 ^ 20 ∧ t 0 = .ptr bR 0 0) (muT T out)
    ⟨T, a, out, tv, ov, k, rfl, hk, hR.symm, m.next (fun _ _ => rfl) (by omega), hgd, hnt, ha, ho, hB, rfl⟩ fun mm t h2 n2 ⟨T, a, out, tv, ov, k, i1, i2, i3, i4, i5, i6, i7, i8, i9, i10⟩ => ?_)
  clear m hgd hnt ha ho hB hk hR
  have i4' := i4
  obtain ⟨m1, m2, m3, m4, m5⟩ := i4'
  have zR : ∀ j, ¬ bR = n2 + j := fun j => by omega
  have lR : ∀ j, (bR < n2 + j) = True := fun j => eq_true (by omega)
  have lR' : (bR < n2) = True := eq_true (by omega)
  obtain ⟨k, rfl⟩ : ∃ k', k = k' + 1 := ⟨k - 1, by omega⟩
  refine W.seq ?_
  rcases m3 with ⟨e0, rfl⟩ | ⟨b, es, rfl, k2, k3, k4, k5, k6⟩
  · refine W.rseq (k := 6) rfl fun K hK => ?_
    simp only [go_sem, i10, m2, eLd]
    refine hK _ _ _ ?_
    clear hK K
    refine W.condF (by simp only [go_sem]) ?_
    refine W.exit ?_
    simp only [go_sem]
    subst e0
    exact nx0 _ _ _ a out _ ov (by rw [← i3]; rfl) (i4.next (fun _ _ => rfl) (by omega))
  · cases T with
    | nil =>
      refine W.rseq (k := 6) rfl fun K hK => ?_
      simp only [go_sem, i10, m2, eLd, List.length_nil]
      refine hK _ _ _ ?_
      clear hK K
      refine W.condF (by simp only [go_sem]) ?_
      refine W.exit ?_
      simp only [go_sem]
      exact nx0 _ _ _ a out _ ov (by rw [← i3]; rfl) (i4.next (fun _ _ => rfl) (by omega))
    | cons x T =>
      rw [List.length_cons] at m2 i4 k5 k6 m5
      have hT40 : T.length < 2 ^ 30 := by rw [List.length_cons] at i9; omega
      have hbR : ¬ b = bR := by omega
      have zb : ∀ j, ¬ b = n2 + j := fun j => by omega
      have lb : ∀ j, (b < n2 + j) = True := fun j => eq_true (by omega)
      have hes : es[T.length]? = some (eTd x) := by
        have h1 : (es.take (T.length + 1))[T.length]? = es[T.length]? := by rw [List.getElem?_take]; simp
        rw [← h1, k6, List.reverse_cons, List.map_append, List.getElem?_append_right (by simp)]
        simp
      have htk : es.take T.length = T.reverse.map eTd := by
        have h1 : (es.take (T.length + 1)).take T.length = es.take T.length := by rw [List.take_take]; simp
        rw [← h1, k6, List.reverse_cons, List.map_append, List.take_append_of_le_length (by simp), List.take_of_length_le (by simp)]
      have hw2 : IntKind.wrap .i64 (((T.length + 1 : Nat) : Int) - 1) = (T.length : Int) := by
        rw [wrap64 (by omega) (by omega)]; omega
      refine W.rseq (k := 6) rfl fun K hK => ?_
      simp only [go_sem, i10, m2, eLd]
      refine hK _ _ _ ?_
      clear hK K
      refine W.condT (by simp only [go_sem]; exact congrArg (fun b => some (AV.bool b)) (decide_eq_true (by omega))) ?_
      refine W.skip ?_
      simp only [go_sem]
      refine W.block ?_
      refine W.dseq (k := 14) rfl fun K hK => ?_
      simp only [go_sem, i10, m2, eLd, hw2, hes, k4, zR, lR, lR', zb, lb, show (T.length : Int) < ((T.length + 1 : Nat) : Int) by omega, eTd]
      refine hK _ _ _ _ (by kernel_rfl) ?_
      clear hK K
      have zR3 : ∀ j, ¬ n2 + j = bR := fun j => by omega
      refine W.dseq (k := 15) rfl fun K hK => ?_
      simp only [go_sem, i10, m2, eLd, hw2, zR, lR, lR', zb, lb, k4, hbR, Nat.zero_le, show T.length ≤ T.length + 1 by omega]
      refine hK _ _ _ _ (by kernel_rfl) ?_
      clear hK K
      have mk : ∀ (h' : Heap) (n' a' : Nat), n2 ≤ n' → h' bR = some (.cells [eLd g w rows kind (.sl b 0 T.length 3) a' ov]) → (∀ y, y < n2 → y ≠ bR → h' y = h2 y) → LM bR g w rows kind h' n' T a' out (.sl b 0 T.length 3) ov := fun h' n' a' q1 q2 q3 =>
        ⟨by omega, q2, .inr ⟨b, es, rfl, k2, by omega, (q3 b k3 hbR).trans k4, by omega, htk⟩, m4.next rfl (fun y p1 p2 => q3 y p2 (by omega)) q1 (Nat.le_refl _), fun b' k b'' k' e1 e2 => by
          injection e1 with e3
          rw [← e3]
          exact m5 b _ b'' k' rfl e2⟩
      have hgd' : GdT T := fun y hy => i5 y (by simp [hy])
      have hnt' : NtT g T := fun y hy => i6 y (by simp [hy])
      have hov : (out = [] ∧ ov = .nils) ∨ ∃ b', ov = .sl b' 0 out.length 1 := by
        rcases m4 with m4 | ⟨b', e, _⟩
        · exact .inl m4
        · exact .inr ⟨b', e⟩
      have hwa : IntKind.wrap .i64 ((a : Int) + 1) = ((a + 1 : Nat) : Int) := by rw [wrap64 (by omega) (by omega)]; rfl
      have hmin : (if (w.length : Int) < ((a + 1 : Nat) : Int) then (w.length : Int) else ((a + 1 : Nat) : Int)) = ((min (a + 1) w.length : Nat) : Int) := by
        split <;> omega
      rw [List.length_cons] at i9
      rw [muT, List.length_cons] at i2
      refine W.block ?_
      cases hx : x.1.non
      · refine W.rseq (k := 5) rfl fun K hK => ?_
        simp only [go_sem, hx, zR3]
        refine hK _ _ _ ?_
        clear hK K
        refine W.condT (by simp only [go_sem]) ?_
        refine W.draw (k := 15) rfl ?_
        simp only [go_sem, i10, zR3, lR, lR', List.length_map, hwa, hmin]
        refine ⟨by kernel_rfl, ?_⟩
        refine ⟨muT T out, by rw [i1, muT, muT, List.length_cons]; omega, T, min (a + 1) w.length, out, .sl b 0 T.length 3, ov, k, rfl, by rw [muT]; omega, by rw [← i3, run_term hx], ?_, hgd', hnt', Nat.min_le_right _ _, i8, by omega⟩
        exact mk _ _ _ (by omega) (by simp only [go_sem]; rfl) (fun y q1 q2 => by simp only [go_sem, q2, show ∀ j, ¬ y = n2 + j from fun j => by omega])
      · obtain ⟨hx1, hx2⟩ := i6 x (by simp) hx
        obtain ⟨ξ, hξ⟩ : ∃ ξ : Nat, x.1.n = ξ := ⟨x.1.n.toNat, by omega⟩
        have hrl : ξ < (ranksL g true).length := by
          have := (ranks_fin (terms := true) hG.right).1
          omega
        have hcd : ∀ c ∈ candL g w kind a (ξ : Int), ∃ i : Nat, c = i ∧ i < g.prods.length := fun c hc => by
          obtain ⟨i, h1, h2, _⟩ := hG.cand (by omega) (by omega) hc
          exact ⟨i, h1, h2⟩
        have hps : ∀ p ∈ g.prods, p.right.length < 2 ^ 20 ∧ ∀ s ∈ p.right, s.non = true → 0 ≤ s.n ∧ s.n < 24 := fun p hp => by
          have h6 := h5 p hp
          exact ⟨by omega, fun s hs hn => by
            have := h6.2.2 s hs
            rw [if_pos hn] at this
            omega⟩
        refine W.rseq (k := 5) rfl fun K hK => ?_
        simp only [go_sem, hx, zR3]
        refine hK _ _ _ ?_
        clear hK K
        refine W.condF (by simp only [go_sem]) ?_
        rcases hov with ⟨ho0, rfl⟩ | ⟨b', rfl⟩
        · have hol : out.length = 0 := by rw [ho0]; rfl
          by_cases ho : out.length = 2000
          · omega
          · refine W.rseq (k := 7) rfl fun K hK => ?_
            simp only [go_sem, i10, zR3, hol, Int.natCast_zero, show decide ((0 : Int) = 2000) = false from rfl]
            refine hK _ _ _ ?_
            clear hK K
            refine W.condF (by simp only [go_sem]) ?_
            refine W.rseq (k := 7) rfl fun K hK => ?_
            simp only [go_sem, i10, zR3, hξ]
            refine VCall.heap (f136 bR g w rows kind _ _ T a out _ _ (mk _ _ a (by omega) (by simp only [go_sem]; rfl) (fun y q1 q2 => by simp only [go_sem, q2, show ∀ j, ¬ y = n2 + j from fun j => by omega])) (by simp) ξ hg (by omega) hw hr hrw hT40 hgd' i7 (by omega) hps (hG.of _ (by omega) (by omega)) hrl hcd) fun r1 h3 n3 hch => ?_
            cases htr : tryL g w rows kind T a (candL g w kind a (ξ : Int)) with
            | none =>
              rw [htr] at hch
              have hch : r1 = .bool false := hch
              subst hch
              simp only [go_sem]
              refine hK _ _ _ ?_
              first | clear hK K | clear hK | skip
              refine W.condT (by simp only [go_sem]) ?_
              refine W.rseq (k := 1) rfl fun K hK => ?_
              simp only [go_sem]
              refine hK _ _ _ ?_
              clear hK K
              refine W.ret ?_
              simp only [go_sem]
              rw [run_none hx ho (by rw [hξ]; exact htr)] at i3
              rw [← i3]
              exact ⟨rfl, fun e => by cases e⟩
            | some cL =>
              obtain ⟨c, L⟩ := cL
              rw [htr] at hch
              obtain ⟨rfl, tv', ov', hM⟩ := hch
              simp only [go_sem]
              refine hK _ _ _ ?_
              first | clear hK K | clear hK | skip
              refine W.condF (by simp only [go_sem]) ?_
              refine W.skip ?_
              simp only [go_sem]
              rw [run_some hx ho (by rw [hξ]; exact htr)] at i3
              obtain ⟨hc1, hc2, hc3⟩ := try_some htr
              obtain ⟨i, rfl, hi, p, hp, hpl⟩ := hG.cand (by omega) (by omega) hc1
              have hro : rightOf g (i : Int) = p.right := by rw [rightOf, Int.toNat_natCast, hp]; rfl
              rw [hro] at hc2
              have hpm := h5 p (List.mem_of_getElem? hp)
              have hps' := hps p (List.mem_of_getElem? hp)
              have hLl : L.length = p.right.length + T.length := by rw [hc2, lay_len]
              refine ⟨muT L (out ++ [(i : Int)]), ?_, L, a, out ++ [(i : Int)], tv', ov', k, rfl, ?_, i3, hM, ?_, ?_, i7, ?_, ?_⟩
              · rw [i1, muT, muT, List.length_append, List.length_singleton, List.length_cons, hLl]
                have := hpm.2.1
                omega
              · rw [muT, List.length_append, List.length_singleton, hLl]
                have := hpm.2.1
                omega
              · rw [hc2]; exact hgd'.lay hr _ hps'.2
              · rw [hc2]
                exact hnt'.lay _ fun s hs hn => by
                  have := hpm.2.2 s hs
                  rw [if_pos hn] at this
                  exact this
              · rw [List.length_append, List.length_singleton]; omega
              · refine ⟨?_, i10⟩
                rw [List.length_append, List.length_singleton, hLl]
                have h8 := hpm.2.1
                omega
        · have hdummy : True := trivial
          by_cases ho : out.length = 2000
          · refine W.rseq (k := 7) rfl fun K hK => ?_
            simp only [go_sem, i10, zR3, List.length_nil, decide_eq_true (show (out.length : Int) = 2000 by omega)]
            refine hK _ _ _ ?_
            clear hK K
            refine W.condT (by simp only [go_sem]) ?_
            refine W.rseq (k := 1) rfl fun K hK => ?_
            simp only [go_sem]
            refine hK _ _ _ ?_
            clear hK K
            refine W.ret ?_
            simp only [go_sem]
            rw [run_big hx ho] at i3
            rw [← i3]
            exact ⟨rfl, fun e => by cases e⟩
          · refine W.rseq (k := 7) rfl fun K hK => ?_
            simp only [go_sem, i10, zR3, List.length_nil, decide_eq_false (show ¬ (out.length : Int) = 2000 by omega)]
            refine hK _ _ _ ?_
            clear hK K
            refine W.condF (by simp only [go_sem]) ?_
            refine W.rseq (k := 7) rfl fun K hK => ?_
            simp only [go_sem, i10, zR3, hξ]
            refine VCall.heap (f136 bR g w rows kind _ _ T a out _ _ (mk _ _ a (by omega) (by simp only [go_sem]; rfl) (fun y q1 q2 => by simp only [go_sem, q2, show ∀ j, ¬ y = n2 + j from fun j => by omega])) (by simp) ξ hg (by omega) hw hr hrw hT40 hgd' i7 (by omega) hps (hG.of _ (by omega) (by omega)) hrl hcd) fun r1 h3 n3 hch => ?_
            cases htr : tryL g w rows kind T a (candL g w kind a (ξ : Int)) with
            | none =>
              rw [htr] at hch
              have hch : r1 = .bool false := hch
              subst hch
              simp only [go_sem]
              refine hK _ _ _ ?_
              first | clear hK K | clear hK | skip
              refine W.condT (by simp only [go_sem]) ?_
              refine W.rseq (k := 1) rfl fun K hK => ?_
              simp only [go_sem]
              refine hK _ _ _ ?_
              clear hK K
              refine W.ret ?_
              simp only [go_sem]
              rw [run_none hx ho (by rw [hξ]; exact htr)] at i3
              rw [← i3]
              exact ⟨rfl, fun e => by cases e⟩
            | some cL =>
              obtain ⟨c, L⟩ := cL
              rw [htr] at hch
              obtain ⟨rfl, tv', ov', hM⟩ := hch
              simp only [go_sem]
              refine hK _ _ _ ?_
              first | clear hK K | clear hK | skip
              refine W.condF (by simp only [go_sem]) ?_
              refine W.skip ?_
              simp only [go_sem]
              rw [run_some hx ho (by rw [hξ]; exact htr)] at i3
              obtain ⟨hc1, hc2, hc3⟩ := try_some htr
              obtain ⟨i, rfl, hi, p, hp, hpl⟩ := hG.cand (by omega) (by omega) hc1
              have hro : rightOf g (i : Int) = p.right := by rw [rightOf, Int.toNat_natCast, hp]; rfl
              rw [hro] at hc2
              have hpm := h5 p (List.mem_of_getElem? hp)
              have hps' := hps p (List.mem_of_getElem? hp)
              have hLl : L.length = p.right.length + T.length := by rw [hc2, lay_len]
              refine ⟨muT L (out ++ [(i : Int)]), ?_, L, a, out ++ [(i : Int)], tv', ov', k, rfl, ?_, i3, hM, ?_, ?_, i7, ?_, ?_⟩
              · rw [i1, muT, muT, List.length_append, List.length_singleton, List.length_cons, hLl]
                have := hpm.2.1
                omega
              · rw [muT, List.length_append, List.length_singleton, hLl]
                have := hpm.2.1
                omega
              · rw [hc2]; exact hgd'.lay hr _ hps'.2
              · rw [hc2]
                exact hnt'.lay _ fun s hs hn => by
                  have := hpm.2.2 s hs
                  rw [if_pos hn] at this
                  exact this
              · rw [List.length_append, List.length_singleton]; omega
              · refine ⟨?_, i10⟩
                rw [List.length_append, List.length_singleton, hLl]
                have h8 := hpm.2.1
                omega

end Go.Av

