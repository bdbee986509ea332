/-
  Layer 15, package tree: open. Conditions: none.
-/
import Derived.Test.YtiiogleijmcccaaT4
namespace Go.Av
open Go.Proofs
set_option maxRecDepth 100000
set_option linter.unusedSimpArgs false
set_option linter.unusedVariables false

theorem rowN_snoc {nodes : List Nd} {av : Nat → AV} {x : Int} : rowN (nodes ++ [(x, [])]) (fun j => if j = nodes.length then .nils else av j) = rowN nodes av ++ [[.int .i64 x, .nils]] := by
  refine List.ext_getElem? fun j => ?_
  rw [List.getElem?_append, rowN_len]
  by_cases h : j < nodes.length
  · rw [if_pos h]
    obtain ⟨y, hy⟩ := get_some h
    rw [rowN_get hy, rowN_get (x := y) (by rw [List.getElem?_append_left h]; exact hy)]
    simp [show ¬ j = nodes.length by omega]
  · rw [if_neg h]
    by_cases e : j = nodes.length
    · subst e
      rw [rowN_get (x := (x, [])) (by simp)]
      simp
    · rw [List.getElem?_eq_none (by rw [rowN_len]; simp; omega), List.getElem?_eq_none (by simp; omega)]

/-- One node more. -/
theorem Mac.setNodes {bR : Nat} {g : Gr} {co co' : Co} {h h' : Heap} {n n' : Nat} {r : Rs} {tv wv nv : AV} {av : Nat → AV} (m : Mac bR g co h n r tv wv nv av) (hn : n ≤ n') (hc : CoExt co co' n) {x : Int} {b : Nat}
    (hroot : h' bR = some (.cells [[.int .i64 g.terms, .int .i64 g.nons, .int .i64 g.start, .ro (g.prods.map ePr), tv, wv, .sl b 0 (r.nodes.length + 1) 2]])) (hb : b < n') (hcb : co' b = some 3) (hN : h' b = some (.cells (rowN r.nodes av ++ [[.int .i64 x, .nils]]))) (hh : ∀ x, x < n → x ≠ bR → co x ≠ some 3 → h' x = h x) :
    MacR bR g co h n ⟨r.todo, r.word, r.nodes ++ [(x, [])]⟩ h' n' := by
  obtain ⟨⟨m1, m2, m3⟩, m4, m5, m6, m7⟩ := m
  have f : ∀ c, c ≠ 0 → c ≠ 3 → Frm c co co' h h' n n' := fun c h0 h1 => ⟨hn, hc, fun x hx e => hh x hx (fun e2 => by rw [e2, m2] at e; cases e; exact h0 rfl) (by rw [e]; simpa using h1)⟩
  refine ⟨hn, fun y hy e => hh y hy (fun e2 => by rw [e2, m2] at e; cases e) (by rw [e]; simp), co', tv, wv, .sl b 0 (r.nodes.length + 1) 2, fun j => if j = r.nodes.length then .nils else av j, hc, ⟨by omega, (hc _ m1).trans m2, hroot⟩, m4.next (f 1 (by omega) (by omega)), m5.next (f 2 (by omega) (by omega)), .inr ⟨b, by simp, hb, hcb, ?_⟩, fun j y hy => ?_⟩
  · rw [hN, rowN_snoc]
  · by_cases e : j = r.nodes.length
    · subst e
      rw [List.getElem?_append_right (Nat.le_refl _)] at hy
      simp only [Nat.sub_self, List.getElem?_cons_zero, Option.some.injEq] at hy
      subst hy
      exact .inl ⟨rfl, by simp⟩
    · have hj : j < r.nodes.length := by
        have := (List.getElem?_eq_some_iff.1 hy).1
        simp at this; omega
      rw [List.getElem?_append_left hj] at hy
      simp only [e, if_false]
      exact (m7 j y hy).next (f (4 + j) (by omega) (by omega))

set_option maxHeartbeats 4000000 in
theorem f126 (bR : Nat) (g : Gr) (co : Co) (h : Heap) (n : Nat) (r : Rs) (tv wv nv : AV) (av : Nat → AV) (m : Mac bR g co h n r tv wv nv av) (x : Int) (p : Pr) (hx0 : 0 ≤ x) (hp : g.prods[x.toNat]? = some p) (hr8 : p.right.length ≤ 8) (hl : r.todo.length < 2 ^ 30) (hl2 : r.nodes.length < 2 ^ 30) :
    FH pg Tq 126 [.ptr bR 0 0, .int .i64 x] h n fun _ h' n' => MacR bR g co h n (openF x p.right r) h' n' := by
  obtain ⟨ξ, hξ⟩ : ∃ ξ : Nat, x = ξ := ⟨x.toNat, by omega⟩
  have hpξ : g.prods[ξ]? = some p := by rw [hξ, Int.toNat_natCast] at hp; exact hp
  have m' := m
  obtain ⟨⟨m1, m2, m3⟩, m4, m5, m6, m7⟩ := m
  have zR : ∀ j, ¬ bR = n + j := fun j => by omega
  have lR : ∀ j, (bR < n + j) = True := fun j => eq_true (by omega)
  obtain ⟨nd, hnd⟩ : ∃ nd, nd = r.nodes.length := ⟨_, rfl⟩
  obtain ⟨A, hA⟩ : ∃ A, A = rowN r.nodes av := ⟨_, rfl⟩
  have hAl : A.length = nd := by rw [hA, rowN_len, hnd]
  rw [← hA, ← hnd] at m6
  refine FH.of (N := 55) (rs := #[]) Try.func126 rfl rfl (of_decide_eq_true rfl) rfl (by decide) ?_
  have nv2 : nv = .nils ∧ nd = 0 ∨ ∃ b, nv = .sl b 0 nd 2 ∧ b < n ∧ co b = some 3 ∧ h b = some (.cells A) := by
    rcases m6 with ⟨a, b⟩ | h
    · exact .inl ⟨b, by rw [hnd, a]; rfl⟩
    · exact .inr h
  refine W.rseq (k := 6) rfl fun K hK => ?_
  have nx0 : ∀ (t' : Fr) (n' : Nat), n ≤ n' → t' 0 = .ptr bR 0 0 → t' 1 = .int .i64 x → t' 4 = .int .i64 nd → K t' h n' := by
    intro t' n' c0 c1 c2 c3
    refine hK _ _ _ ?_
    clear hK
    have zR : ∀ j, ¬ bR = n' + j := fun j => by omega
    have lR : ∀ j, (bR < n' + j) = True := fun j => eq_true (by omega)
    refine W.seqk fun K hK => ?_
    have nx1 : ∀ (t' : Fr) (h' : Heap) (n' : Nat), t' 0 = .ptr bR 0 0 → t' 1 = .int .i64 x → t' 4 = .int .i64 nd → MacR bR g co h n ⟨r.todo, r.word, r.nodes ++ [(x, [])]⟩ h' n' → K t' h' n' := by
      intro t' h1 n1 c1 c2 c3 ⟨a1, a2, co1, tv1, wv1, nv1, av1, a3, a4⟩
      have hb : Bs co h n co1 h1 n1 := ⟨a1, a3, a2⟩
      refine hK _ _ _ ?_
      clear hK
      refine W.rseq (k := 6) rfl fun K hK => ?_
      simp only [go_sem, c1, c3]
      refine VCall.heap (f124 bR g (cut co1 n1) _ _ ⟨r.todo, r.word, r.nodes ++ [(x, [])]⟩ tv1 wv1 nv1 av1 (a4.loc (by omega) fun x hx hx2 => rfl) (finP nd) (show r.todo.length < 2 ^ 40 by omega)) fun res h2 n2 ⟨b1, b2, co2, tv2, wv2, nv2, av2, b3, b4⟩ => ?_
      have hb2 : Bs co h n co2 h2 n2 := (hb.loc (h' := _) (n' := _) (by omega) (fun x hx => rfl)).call b1 b3 b2
      simp only [go_sem]
      refine hK _ _ _ ?_
      first | clear hK K | clear hK | skip
      have m3' := b4.root.2.2
      have zR2 : ∀ j, ¬ bR = n2 + j := fun j => by have := b4.root.1; omega
      have zs : g.prods[ξ]? = some p := hpξ
      refine W.rseq (k := 10) rfl fun K hK => ?_
      simp only [go_sem, c1, c2, m3', hξ, hpξ]
      refine hK _ _ _ ?_
      clear hK K
      refine W.rseq (k := 4) rfl fun K hK => ?_
      simp only [go_sem]
      refine hK _ _ _ ?_
      clear hK K
      refine W.block (W.while (fun k t h1 n1 => ∃ (co1 : Co) (tv wv nv : AV) (av : Nat → AV), k ≤ p.right.length ∧ Bs co h n co1 h1 n1 ∧ Mac bR g co1 h1 n1 ⟨(p.right.drop k).map (mkP nd) ++ finP nd :: r.todo, r.word, r.nodes ++ [(x, [])]⟩ tv wv nv av ∧ t 0 = .ptr bR 0 0 ∧ t 4 = .int .i64 nd ∧ t 5 = .ro (p.right.map eSy) ∧ t 6 = .int .i64 ((k : Int) - 1)) p.right.length
        ⟨cut co2 n2, tv2, wv2, nv2, av2, Nat.le_refl _, hb2.loc (by omega) (fun x hx => by simp only [go_sem]), ?_, c1, c3, rfl, ?_⟩ fun k t h1 n1 ⟨co1, tv, wv, nv, av, i1, i2, i3, i4, i5, i6, i7⟩ => ?_)
      · rw [List.drop_length]
        exact b4.loc (by omega) fun x hx hx2 => by simp only [go_sem]
      · simp only [go_sem, wrap64 (x := (p.right.length : Int) - 1) (by omega) (by omega)]
      refine W.seq ?_
      refine W.rseq (k := 2) rfl fun K hK => ?_
      simp only [go_sem, i7]
      refine hK _ _ _ ?_
      clear hK K
      refine W.cond rfl (fun hc => ?_) fun hc => ?_
      · refine W.skip ?_
        simp only [go_sem]
        have hk : 0 < k := by simp at hc; omega
        obtain ⟨q, rfl⟩ : ∃ q, k = q + 1 := ⟨k - 1, by omega⟩
        obtain ⟨sy, hs⟩ := get_some (show q < p.right.length by omega)
        have hsd : p.right.drop q = sy :: p.right.drop (q + 1) := by
          rw [List.drop_eq_getElem_cons (by omega)]
          congr 1
          exact (List.getElem_eq_iff _).2 hs
        have hq1 : ((q + 1 : Nat) : Int) - 1 = (q : Int) := by omega
        refine W.seqk fun K hK => ?_
        refine W.block ?_
        refine W.draw (k := 10) rfl ?_
        simp only [go_sem, i4, i5, i6, i7, hq1, hs]
        refine VCall.heap (f124 bR g (cut co1 n1) _ _ ⟨(p.right.drop (q + 1)).map (mkP nd) ++ finP nd :: r.todo, r.word, r.nodes ++ [(x, [])]⟩ tv wv nv av (i3.loc (by omega) fun x hx hx2 => rfl) (mkP nd sy) (by simp; omega)) fun res h2 n2 ⟨b1, b2, co2, tv2, wv2, nv2, av2, b3, b4⟩ => ?_
        have hb2 : Bs co h n co2 h2 n2 := (i2.loc (h' := _) (n' := _) (by omega) (fun x hx => rfl)).call b1 b3 b2
        simp only [go_sem]
        refine ⟨by kernel_rfl, ?_⟩
        refine hK _ _ _ ?_
        refine W.region (k := 3) rfl ?_
        simp only [go_sem, i7, hq1]
        refine ⟨q, by omega, cut co2 n2, tv2, wv2, nv2, av2, by omega, hb2.loc (by omega) (fun x hx => by simp only [go_sem]), ?_, i4, i5, i6, ?_⟩
        · rw [hsd]
          exact b4.loc (by omega) fun x hx hx2 => by simp only [go_sem]
        · rw [wrap64 (by omega) (by omega)]
      · refine W.exit ?_
        simp only [go_sem]
        have hk : k = 0 := by simp at hc; omega
        subst hk
        rw [List.drop_zero] at i3
        unfold openF
        rw [← hnd]
        exact (i2.loc (n' := n1 + 2) (by omega) fun x hx => rfl).mac (i3.loc (by omega) fun x hx hx2 => rfl)
    clear hK
    rcases nv2 with ⟨rfl, hn0⟩ | ⟨b, rfl, k2, k3, k4⟩
    · refine W.region (k := 12) rfl ?_
      simp only [go_sem, c1, c2, zR, lR, m3, ne_eq, not_false_eq_true, Int.reduceEq, show (0 : Nat) < 1 by omega, show (0 : Nat) < 2 by omega, show (0 : Nat) < 32 by omega]
      have hr0 : r.nodes.length = 0 := by omega
      have hA0 : rowN r.nodes av = [] := by rw [← hA]; exact List.eq_nil_of_length_eq_zero (by omega)
      refine nx1 _ _ _ c1 c2 c3 ?_
      refine m'.setNodes (co' := setc co (n' + 8) 3) (b := n' + 8) (by omega) (setc_ext (by omega)) ?_ (by omega) (by simp [setc]) ?_ ?_
      · simp only [go_sem, hr0]
      · simp only [go_sem, show ¬ n' + 8 = bR by omega, hA0]
      · intro y hy hyR hy1
        simp only [go_sem, show ∀ j, ¬ y = n' + j from fun j => by omega, hyR]
    · have zb : ∀ j, ¬ b = n' + j := fun j => by omega
      have hRb : ¬ bR = b := fun e => by rw [← e, m2] at k3; injection k3 with k3; omega
      refine W.region (k := 12) rfl ?_
      simp only [go_sem, c1, c2, zR, lR, zb, hRb, m3, k4, hAl, Nat.lt_irrefl, and_false, if_false, ne_eq, not_false_eq_true, Int.reduceEq, show (0 : Nat) < 1 by omega, show (0 : Nat) < 2 by omega, show (0 : Nat) < 32 by omega, show (nd + 1) * 32 ≤ 140737488355328 by omega]
      refine nx1 _ _ _ c1 c2 c3 ?_
      refine m'.setNodes (co' := setc co (n' + 8) 3) (b := n' + 8) (by omega) (setc_ext (by omega)) ?_ (by omega) (by simp [setc]) ?_ ?_
      · simp only [go_sem, hnd]
      · simp only [go_sem, show ¬ n' + 8 = bR by omega, hA]
      · intro y hy hyR hy1
        have hyb : ¬ y = b := fun e => hy1 (by rw [e]; exact k3)
        simp only [go_sem, show ∀ j, ¬ y = n' + j from fun j => by omega, hyR, hyb]
  clear hK
  rcases nv2 with ⟨rfl, hn0⟩ | ⟨b, rfl, k2, k3, k4⟩
  · simp only [go_sem, zR, lR, m3]
    exact nx0 _ _ (by omega) rfl rfl (by rw [hn0]; rfl)
  · simp only [go_sem, zR, lR, m3]
    exact nx0 _ _ (by omega) rfl rfl rfl

end Go.Av

