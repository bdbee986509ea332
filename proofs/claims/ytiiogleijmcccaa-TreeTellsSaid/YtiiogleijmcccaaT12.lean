/-
  Layer 15, the document's answer: the nodes of a derivation. Conditions: none.
-/
import Derived.Test.YtiiogleijmcccaaT8
namespace Go.Av
open Go.Proofs
set_option maxRecDepth 100000
set_option linter.unusedSimpArgs false
set_option linter.unusedVariables false

/-- Nodes, in memory. -/
structure NdS (co : Co) (h : Heap) (n : Nat) (nodes : List Nd) (nv : AV) (av : Nat → AV) : Prop where
  row : (nodes = [] ∧ nv = .nils) ∨ ∃ b, nv = .sl b 0 nodes.length 2 ∧ b < n ∧ co b = some 3 ∧ h b = some (.cells (rowN nodes av))
  ats : ∀ (i : Nat) (x : Nd), nodes[i]? = some x → SlC eIn 1 (4 + i) co h n (av i) x.2

theorem NdS.next {co co' : Co} {h h' : Heap} {n n' : Nat} {nodes : List Nd} {nv : AV} {av : Nat → AV} (m : NdS co h n nodes nv av) (hn : n ≤ n') (hc : CoExt co co' n) (hh : ∀ x, x < n → co x ≠ none → h' x = h x) : NdS co' h' n' nodes nv av := by
  obtain ⟨m6, m7⟩ := m
  have f : ∀ c, Frm c co co' h h' n n' := fun c => ⟨hn, hc, fun x hx e => hh x hx (by rw [e]; simp)⟩
  refine ⟨?_, fun i x hx => (m7 i x hx).next (f _)⟩
  rcases m6 with m6 | ⟨b, k1, k2, k3, k4⟩
  · exact .inl m6
  · exact .inr ⟨b, k1, by omega, (hc b k2).trans k3, (hh b k2 (by rw [k3]; simp)).trans k4⟩

theorem NdS.loc {co : Co} {h h' : Heap} {n n' : Nat} {nodes : List Nd} {nv : AV} {av : Nat → AV} (m : NdS co h n nodes nv av) (hn : n ≤ n') (hh : ∀ x, x < n → co x ≠ none → h' x = h x) : NdS (cut co n) h' n' nodes nv av :=
  m.next hn (fun x hx => cut_lt hx) hh

theorem NdS.snoc {co co' : Co} {h h' : Heap} {n n' : Nat} {nodes : List Nd} {nv : AV} {av : Nat → AV} (m : NdS co h n nodes nv av) (hn : n ≤ n') (hc : CoExt co co' n) {x : Int} {b : Nat} (hb : b < n') (hcb : co' b = some 3) (hN : h' b = some (.cells (rowN nodes av ++ [[.int .i64 x, .nils]])))
    (hh : ∀ x, x < n → co x ≠ none → co x ≠ some 3 → h' x = h x) : NdS co' h' n' (nodes ++ [(x, [])]) (.sl b 0 (nodes.length + 1) 2) (fun j => if j = nodes.length then .nils else av j) := by
  obtain ⟨m6, m7⟩ := m
  have f : ∀ c, c ≠ 3 → Frm c co co' h h' n n' := fun c h0 => ⟨hn, hc, fun x hx e => hh x hx (by rw [e]; simp) (by rw [e]; simpa using h0)⟩
  refine ⟨.inr ⟨b, by simp, hb, hcb, by rw [hN, rowN_snoc]⟩, fun j y hy => ?_⟩
  by_cases e : j = nodes.length
  · subst e
    rw [List.getElem?_append_right (Nat.le_refl _)] at hy
    simp only [Nat.sub_self, List.getElem?_cons_zero, Option.some.injEq] at hy
    subst hy
    exact .inl ⟨rfl, by simp⟩
  · have hj : j < nodes.length := by
      have := (List.getElem?_eq_some_iff.1 hy).1
      simp at this; omega
    rw [List.getElem?_append_left hj] at hy
    simp only [e, if_false]
    exact (m7 j y hy).next (f (4 + j) (by omega))

theorem NdS.setAt {co co' : Co} {h h' : Heap} {n n' : Nat} {nodes : List Nd} {nv : AV} {av : Nat → AV} (m : NdS co h n nodes nv av) (hn : n ≤ n') (hc : CoExt co co' n) {i : Nat} {x : Nd} {v : AV} {pl : List Int} {bN : Nat} (hx : nodes[i]? = some x)
    (hnv : nv = .sl bN 0 nodes.length 2) (hbN : bN < n) (hcN : co bN = some 3) (hN : h' bN = some (.cells ((rowN nodes av).set i [.int .i64 x.1, v]))) (hst : SlC eIn 1 (4 + i) co' h' n' v (x.2 ++ pl)) (hh : ∀ x, x < n → x ≠ bN → co x ≠ none → co x ≠ some (4 + i) → h' x = h x) :
    NdS co' h' n' (nodes.modify i fun x => (x.1, x.2 ++ pl)) nv (fun j => if j = i then v else av j) := by
  obtain ⟨m6, m7⟩ := m
  have f : ∀ c, c ≠ 3 → c ≠ 4 + i → Frm c co co' h h' n n' := fun c h0 h1 => ⟨hn, hc, fun x hx e => hh x hx (fun e2 => by rw [e2, hcN] at e; cases e; exact h0 rfl) (by rw [e]; simp) (by rw [e]; simpa using h1)⟩
  refine ⟨.inr ⟨bN, by rw [hnv]; simp, by omega, (hc bN hbN).trans hcN, ?_⟩, fun j y hy => ?_⟩
  · rw [hN, rowN_set hx]
  · by_cases e : j = i
    · subst e
      have h2 : (nodes.modify j fun x => (x.1, x.2 ++ pl))[j]? = some (x.1, x.2 ++ pl) := by rw [List.getElem?_modify]; simp [hx]
      rw [h2] at hy; cases hy
      simpa using hst
    · have h2 : (nodes.modify i fun x => (x.1, x.2 ++ pl))[j]? = nodes[j]? := by rw [List.getElem?_modify]; simp [Ne.symm e]
      rw [h2] at hy
      simp only [e, if_false]
      exact (m7 j y hy).next (f (4 + j) (by omega) (by omega))

theorem bld_at {g : Gr} {l : List Int} (h8 : ∀ p ∈ g.prods, p.right.length ≤ 8) {syms : List Sy} {i at' : Nat} {pl : List Int} {ns : List Nd} {i' at2 : Nat} (h : Bld g l syms i at' pl ns i' at2) : at' ≤ at2 ∧ at2 ≤ at' + syms.length + 8 * ns.length ∧ i' = i + ns.length ∧ pl.length = syms.length ∧ (syms ≠ [] → i ≤ l.length ∨ True) := by
  induction h with
  | nil => simp
  | term h ih => obtain ⟨a, b, c, d, _⟩ := ih; simp; omega
  | non hj hp h1 h2 ih1 ih2 =>
    obtain ⟨a1, b1, c1, d1, _⟩ := ih1
    obtain ⟨a2, b2, c2, d2, _⟩ := ih2
    have := h8 _ (List.mem_of_getElem? (okP_some hp).2.1)
    simp
    omega

def buildR (co : Co) (h : Heap) (n : Nat) (nodes : List Nd) (i' at2 : Nat) (res : AV) (h' : Heap) (n' : Nat) : Prop :=
  ∃ nv av co', res = .tup [nv, .int .i64 i', .int .i64 at2] ∧ n ≤ n' ∧ CoExt co co' n ∧ (∀ x, x < n → co x = none → h' x = h x) ∧ NdS co' h' n' nodes nv av

/-- Places, in a block of this call's. -/
def LocI (co : Co) (h : Heap) (lo n : Nat) (v : AV) (l : List Int) : Prop := (l = [] ∧ v = .nils) ∨ ∃ b, v = .sl b 0 l.length 1 ∧ lo ≤ b ∧ b < n ∧ co b = none ∧ h b = some (.cells (l.map eIn))

theorem LocI.next {co co' : Co} {h h' : Heap} {lo n n' : Nat} {v : AV} {l : List Int} (s : LocI co h lo n v l) (hn : n ≤ n') (hc : CoExt co co' n) (hh : ∀ x, x < n → co x = none → lo ≤ x → h' x = h x) : LocI co' h' lo n' v l := by
  rcases s with s | ⟨b, s1, s2, s3, s4, s5⟩
  · exact .inl s
  · exact .inr ⟨b, s1, s2, by omega, (hc b s3).trans s4, (hh b s3 s4 s2).trans s5⟩

set_option maxHeartbeats 8000000 in
theorem f98 (g : Gr) (hg : g.Small) (h8 : ∀ p ∈ g.prods, p.right.length ≤ 8) (l : List Int) (hl : l.length < 2 ^ 30) : ∀ (F : Nat) (i at' : Nat) (j : Int) (p : Pr) (pl : List Int) (ns : List Nd) (i' at2 : Nat) (nodes : List Nd) (nv : AV) (av : Nat → AV) (co : Co) (h : Heap) (n : Nat),
    ns.length < F → l[i]? = some j → 0 ≤ j → g.prods[j.toNat]? = some p → Bld g l p.right (i + 1) at' pl ns i' at2 → at2 < 2 ^ 40 → nodes.length + ns.length < 2 ^ 30 → NdS co h n nodes nv av →
    FH pg Tq 98 [.agg (eGr g), .ro (l.map eIn), .int .i64 i, .int .i64 at', nv] h n fun res h' n' => buildR co h n (nodes ++ (j, pl ++ [(at2 : Int)]) :: ns) i' at2 res h' n' := by
  intro F
  induction F with
  | zero => intro i at' j p pl ns i' at2 nodes nv av co h n hK; omega
  | succ F ih =>
    intro i at' j p pl ns i' at2 nodes nv av co h n hK hj hj0 hp hb hat hnl hN
    have hm : p ∈ g.prods := List.mem_of_getElem? hp
    have hp8 := h8 p hm
    obtain ⟨q1, q2, q3, q4, _⟩ := bld_at h8 hb
    obtain ⟨ι, rfl⟩ : ∃ ι : Nat, j = ι := ⟨j.toNat, by omega⟩
    rw [Int.toNat_natCast] at hp
    have hil := (List.getElem?_eq_some_iff.1 hj).1
    obtain ⟨nd, hnd⟩ : ∃ nd, nd = nodes.length := ⟨_, rfl⟩
    obtain ⟨A, hA⟩ : ∃ A, A = rowN nodes av := ⟨_, rfl⟩
    have hAl : A.length = nd := by rw [hA, rowN_len, hnd]
    have hN' := hN
    obtain ⟨m6, m7⟩ := hN
    rw [← hA, ← hnd] at m6
    refine FH.of (N := 77) (rs := #[.tmp 10, .tmp 11, .tmp 12]) Try.func98 rfl rfl (of_decide_eq_true rfl) rfl (by decide) ?_
    refine W.rseq (k := 4) rfl fun K hK => ?_
    simp only [go_sem]
    refine hK _ _ _ ?_
    clear hK K
    obtain ⟨nodes1, hnodes1⟩ : ∃ nodes1 : List Nd, nodes1 = nodes ++ [((ι : Int), [])] := ⟨_, rfl⟩
    have nv2 : nv = .nils ∧ nd = 0 ∨ ∃ b, nv = .sl b 0 nd 2 ∧ b < n ∧ co b = some 3 ∧ h b = some (.cells A) := by
      rcases m6 with ⟨a, b⟩ | h
      · exact .inl ⟨b, by rw [hnd, a]; rfl⟩
      · exact .inr h
    refine W.rseq (k := 3) rfl fun K hK => ?_
    have nx0 : ∀ (t' : Fr) (n1 : Nat), n < n1 → t' 1 = .ro (l.map eIn) → t' 2 = .int .i64 i → t' 3 = .int .i64 at' → t' 4 = nv → t' 5 = .ptr n 0 0 → t' 13 = .int .i64 nd → K t' (upd h n (some (.cells [eGr g]))) n1 := by
      intro t n1 hn1 c1 c2 c3 c4 c5 c13
      refine hK _ _ _ ?_
      clear hK
      have zn : ∀ j, ¬ n = n1 + j := fun j => by omega
      refine W.rseq (k := 9) rfl fun K hK => ?_
      have nx2 : ∀ (t' : Fr) (h' : Heap) (n' : Nat) (co' : Co) (nv' : AV) (av' : Nat → AV), n < n' → CoExt co co' n → (∀ x, x < n → co x = none → h' x = h x) → co' n = none → h' n = some (.cells [eGr g]) → NdS co' h' n' nodes1 nv' av' → t' 1 = .ro (l.map eIn) → t' 2 = .int .i64 i → t' 3 = .int .i64 at' → t' 4 = nv' → t' 5 = .ptr n 0 0 → t' 13 = .int .i64 nd → K t' h' n' := by
        intro t h1 n1 co1 nv1 av1 d1 d2 d3 d4 d5 d6 c1 c2 c3 c4 c5 c13
        refine hK _ _ _ ?_
        clear hK
        have ln : ∀ j, (n < n1 + j) = True := fun j => eq_true (by omega)
        refine W.dseq (k := 10) rfl fun K hK => ?_
        simp only [go_sem, c1, c2, c5, d5, hj, hp, ln, show n < n1 from d1]
        refine hK _ _ _ _ (by kernel_rfl) ?_
        clear hK K
        refine W.rseq (k := 2) rfl fun K hK => ?_
        simp only [go_sem]
        refine hK _ _ _ ?_
        clear hK K
        refine W.rseq (k := 3) rfl fun K hK => ?_
        simp only [go_sem, c2, wrap64 (x := (i : Int) + 1) (by omega) (by omega)]
        refine hK _ _ _ ?_
        clear hK K
        refine W.seq ?_
        refine W.rseq (k := 1) rfl fun K hK => ?_
        simp only [go_sem]
        refine hK _ _ _ ?_
        clear hK K
        refine W.block (W.while (fun m t h2 n2 => ∃ (k ii aa : Nat) (pl1 pl2 : List Int) (ns1 ns2 : List Nd) (co2 : Co) (nv2 : AV) (av2 : Nat → AV), m = p.right.length - k ∧ k ≤ p.right.length ∧ pl1.length = k ∧ pl = pl1 ++ pl2 ∧ ns = ns1 ++ ns2 ∧ Bld g l (p.right.drop k) ii aa pl2 ns2 i' at2 ∧ n < n2 ∧ CoExt co co2 n ∧ (∀ x, x < n → co x = none → h2 x = h x) ∧ co2 n = none ∧ h2 n = some (.cells [eGr g]) ∧ NdS co2 h2 n2 (nodes1 ++ ns1) nv2 av2 ∧ LocI co2 h2 (n + 1) n2 (t 15) pl1 ∧ (t 1 = .ro (l.map eIn) ∧ t 5 = .ptr n 0 0 ∧ t 13 = .int .i64 nd ∧ t 14 = .ro (p.right.map eSy)) ∧ t 2 = .int .i64 ii ∧ t 3 = .int .i64 aa ∧ t 4 = nv2 ∧ t 16 = .int .i64 k) p.right.length
          ⟨0, i + 1, at', [], pl, [], ns, cut co1 n1, nv1, av1, by simp, by simp, rfl, rfl, rfl, hb, by omega, fun x hx => (cut_lt (by omega)).trans (d2 x hx), fun x hx e => d3 x hx e, by rw [cut_lt (by omega)]; exact d4, d5, by rw [List.append_nil]; exact d6.loc (by omega) (fun x hx hx2 => rfl), .inl ⟨rfl, rfl⟩, ⟨c1, c5, c13, rfl⟩, rfl, c3, c4, rfl⟩ fun m t h2 n2 ⟨k, ii, aa, pl1, pl2, ns1, ns2, co2, nv2, av2, i1, i2, i3, i4, i5, i6, i7, i8, i9, i10, i11, i12, i13, i14, i15, i16, i17, i18⟩ => ?_)
        have i14' := i14
        obtain ⟨a1, a5, a13, a14⟩ := i14'
        refine W.seq ?_
        refine W.rseq (k := 4) rfl fun K hK => ?_
        simp only [go_sem, a14, i18]
        refine hK _ _ _ ?_
        clear hK K
        refine W.cond rfl (fun hc => ?_) fun hc => ?_
        · refine W.skip ?_
          simp only [go_sem]
          have hk : k < p.right.length := by simp at hc; omega
          obtain ⟨sy, hs⟩ := get_some hk
          have hsd : p.right.drop k = sy :: p.right.drop (k + 1) := by
            rw [List.drop_eq_getElem_cons hk]
            congr 1
            exact (List.getElem_eq_iff hk).2 hs
          rw [hsd] at i6
          obtain ⟨qa1, qa2, qa3, qa4, _⟩ := bld_at h8 i6
          have haa : aa < 2 ^ 40 := by omega
          refine W.seqk fun K hK => ?_
          have nx : ∀ (t' : Fr) (h' : Heap) (n' : Nat) (ii aa : Nat) (pl1 pl2 : List Int) (ns1 ns2 : List Nd) (co2 : Co) (nv2 : AV) (av2 : Nat → AV), pl1.length = k + 1 → pl = pl1 ++ pl2 → ns = ns1 ++ ns2 → Bld g l (p.right.drop (k + 1)) ii aa pl2 ns2 i' at2 → n < n' → CoExt co co2 n → (∀ x, x < n → co x = none → h' x = h x) → co2 n = none → h' n = some (.cells [eGr g]) → NdS co2 h' n' (nodes1 ++ ns1) nv2 av2 → LocI co2 h' (n + 1) n' (t' 15) pl1 → (t' 1 = .ro (l.map eIn) ∧ t' 5 = .ptr n 0 0 ∧ t' 13 = .int .i64 nd ∧ t' 14 = .ro (p.right.map eSy)) → t' 2 = .int .i64 ii → t' 3 = .int .i64 aa → t' 4 = nv2 → t' 16 = .int .i64 k → K t' h' n' := by
            intro t' h' n' ii aa pl1 pl2 ns1 ns2 co2 nv2 av2 e3 e4 e5 e6 e7 e8 e9 e10 e11 e12 e13 e14 e15 e16 e17 e18
            refine hK _ _ _ ?_
            refine W.region (k := 3) rfl ?_
            simp only [go_sem, e18]
            refine ⟨p.right.length - (k + 1), by omega, k + 1, ii, aa, pl1, pl2, ns1, ns2, co2, nv2, av2, rfl, by omega, e3, e4, e5, e6, by omega, e8, fun x hx e => e9 x hx e, e10, e11, e12.next (by omega) (CoExt.rfl' _ _) (fun x hx hx2 => rfl), e13.next (by omega) (CoExt.rfl' _ _) (fun x hx hx2 hx3 => rfl), e14, e15, e16, e17, ?_⟩
            rw [wrap64 (by omega) (by omega)]; rfl
          clear hK
          refine W.block ?_
          refine W.rseq (k := 5) rfl fun K hK => ?_
          have nx9 : ∀ (t' : Fr) (h' : Heap) (n' : Nat) (co3 : Co), n2 < n' → CoExt co co3 n → (∀ x, x < n → co x = none → h' x = h x) → co3 n = none → h' n = some (.cells [eGr g]) → NdS co3 h' n' (nodes1 ++ ns1) nv2 av2 → LocI co3 h' (n + 1) n' (t' 15) (pl1 ++ [(aa : Int)]) → (t' 1 = .ro (l.map eIn) ∧ t' 5 = .ptr n 0 0 ∧ t' 13 = .int .i64 nd ∧ t' 14 = .ro (p.right.map eSy)) → t' 2 = .int .i64 ii → t' 3 = .int .i64 aa → t' 4 = nv2 → t' 16 = .int .i64 k → K t' h' n' := by
            intro t h3 n3 co3 e7 e8 e9 e10 e11 e12 e13 e14 e15 e16 e17 e18
            have e14' := e14
            obtain ⟨a1, a5, a13, a14⟩ := e14'
            refine hK _ _ _ ?_
            clear hK
            refine W.rseq (k := 5) rfl fun K hK => ?_
            simp only [go_sem, a14, e18, hs]
            refine hK _ _ _ ?_
            clear hK K
            cases i6 with
            | @term τ _ _ _ pl3 _ _ _ hB =>
              refine W.condF (by simp only [go_sem]) ?_
              refine W.region (k := 3) rfl ?_
              simp only [go_sem, e16, wrap64 (x := (aa : Int) + 1) (by omega) (by omega)]
              exact nx _ _ _ ii (aa + 1) (pl1 ++ [(aa : Int)]) pl3 ns1 ns2 co3 nv2 av2 (by simp [i3]) (by rw [i4]; simp) i5 hB (by omega) e8 (fun x hx e => e9 x hx e) e10 e11 (e12.next (by omega) (CoExt.rfl' _ _) fun x hx hx2 => rfl) (e13.next (by omega) (CoExt.rfl' _ _) fun x hx hx2 hx3 => rfl) e14 e15 rfl e17 e18
            | @non ν _ _ _ jj pp plx nsx i1' at1 pl3 nsy _ _ hjj hpp hB1 hB2 =>
              obtain ⟨hjj0, hppg, _⟩ := okP_some hpp
              obtain ⟨qb1, qb2, qb3, qb4, _⟩ := bld_at h8 hB1
              obtain ⟨qc1, qc2, qc3, qc4, _⟩ := bld_at h8 hB2
              have hlen1 : nodes1.length = nodes.length + 1 := by rw [hnodes1]; simp
              have hns : ns.length = ns1.length + (1 + nsx.length + nsy.length) := by rw [i5]; simp; omega
              refine W.condT (by simp only [go_sem]) ?_
              have hcall := ih ii aa jj pp plx nsx i1' at1 (nodes1 ++ ns1) nv2 av2 (cut co3 n3) h3 (n3 + 5 + 13) (by omega) hjj hjj0 hppg hB1 (by omega) (by simp; omega) (e12.loc (by omega) fun x hx hx2 => rfl)
              refine W.region (k := 13) rfl ?_
              simp only [go_sem, a1, a5, e15, e16, e17, e11]
              refine VCall.heap hcall fun res h4 n4 ⟨nv4, av4, co4, hres, f1, f2, f3, f4⟩ => ?_
              subst hres
              simp only [go_sem]
              have hn4 : co4 n = none := (f2 n (by omega)).trans (by rw [cut_lt (by omega)]; exact e10)
              have hg4 : h4 n = some (.cells [eGr g]) := (f3 n (by omega) (by rw [cut_lt (by omega)]; exact e10)).trans e11
              have hloc4 : LocI co4 h4 (n + 1) n4 (t 15) (pl1 ++ [(aa : Int)]) := (e13.next (co' := cut co3 n3) (h' := h3) (n' := n3 + 5 + 13) (by omega) (fun x hx => cut_lt hx) fun _ _ _ _ => rfl).next f1 f2 fun x hx hx2 _ => f3 x hx hx2
              refine nx _ _ _ i1' at1 (pl1 ++ [(aa : Int)]) pl3 (ns1 ++ (jj, plx ++ [(at1 : Int)]) :: nsx) nsy co4 nv4 av4 (by simp [i3]) (by rw [i4]; simp) (by rw [i5]; simp) hB2 (by omega) (fun x hx => (f2 x (by omega)).trans ((cut_lt (by omega)).trans (e8 x hx))) (fun x hx e => (f3 x (by omega) (by rw [cut_lt (by omega)]; exact (e8 x hx).trans e)).trans (e9 x hx e)) hn4 hg4 ?_ hloc4 e14 rfl rfl rfl e18
              rw [← List.append_assoc]
              exact f4
          clear hK
          have z2 : ∀ j, ¬ n = n2 + j := fun j => by omega
          rcases i13 with ⟨w0, w15⟩ | ⟨bw, w15, w1, w2, w3, w4⟩
          · simp only [go_sem, w15, i16, ne_eq, not_false_eq_true, Int.reduceEq, show (0 : Nat) < 1 by omega, show (0 : Nat) < 8 by omega]
            refine nx9 _ _ _ (cut co2 n2) (by omega) (fun x hx => (cut_lt (by omega)).trans (i8 x hx)) (fun x hx e => by simp only [go_sem, show ∀ j, ¬ x = n2 + j from fun j => by omega]; exact i9 x hx e) (by rw [cut_lt i7]; exact i10) (by simp only [go_sem, z2, i11]) (i12.loc (by omega) fun x hx hx2 => by simp only [go_sem, show ∀ j, ¬ x = n2 + j from fun j => by omega]) (.inr ⟨n2 + 7, by rw [w0]; rfl, by omega, by omega, cut_ge (by omega), ?_⟩) ⟨a1, a5, a13, a14⟩ i15 i16 i17 i18
            simp only [go_sem, w0]; rfl
          · have zw : ∀ j, ¬ bw = n2 + j := fun j => by omega
            have hbn : ¬ n = bw := fun e => by omega
            simp only [go_sem, w15, w4, i16, zw, Nat.lt_irrefl, and_false, if_false, ne_eq, not_false_eq_true, Int.reduceEq, show (0 : Nat) < 1 by omega, show (0 : Nat) < 8 by omega, show (pl1.length + 1) * 8 ≤ 140737488355328 by omega]
            refine nx9 _ _ _ (cut co2 n2) (by omega) (fun x hx => (cut_lt (by omega)).trans (i8 x hx)) (fun x hx e => by simp only [go_sem, show ∀ j, ¬ x = n2 + j from fun j => by omega, show ¬ x = bw by omega]; exact i9 x hx e) (by rw [cut_lt i7]; exact i10) (by simp only [go_sem, z2, hbn, i11]) (i12.loc (by omega) fun x hx hx2 => by simp only [go_sem, show ∀ j, ¬ x = n2 + j from fun j => by omega, show ¬ x = bw from fun e => hx2 (e ▸ w3)]) (.inr ⟨n2 + 7, by rw [List.length_append]; rfl, by omega, by omega, cut_ge (by omega), ?_⟩) ⟨a1, a5, a13, a14⟩ i15 i16 i17 i18
            simp only [go_sem, List.map_append]; rfl
        · refine W.exit ?_
          simp only [go_sem]
          have hk : k = p.right.length := by simp at hc; omega
          subst hk
          rw [List.drop_length] at i6
          have hnil : pl2 = [] ∧ ns2 = [] ∧ ii = i' ∧ aa = at2 := by cases i6; exact ⟨rfl, rfl, rfl, rfl⟩
          obtain ⟨rfl, rfl, rfl, rfl⟩ := hnil
          rw [List.append_nil] at i4 i5
          subst i4 i5
          have hx : (nodes1 ++ ns)[nd]? = some ((ι : Int), []) := by
            rw [hnodes1, List.append_assoc, hnd, List.getElem?_append_right (Nat.le_refl _)]
            simp
          have hlen1 : nodes1.length = nd + 1 := by rw [hnodes1, hnd]; simp
          have hfinal : ((nodes1 ++ ns).modify nd fun x => (x.1, x.2 ++ (pl ++ [(aa : Int)]))) = nodes ++ ((ι : Int), pl ++ [(aa : Int)]) :: ns := by
            have h1 := extN_app (nd := (nodes.length : Int)) (ns := nodes ++ [((ι : Int), [])]) (ms := ns) (a := pl ++ [(aa : Int)]) (by simp; omega)
            rw [extN_new] at h1
            unfold extN at h1
            rw [if_pos (by omega), Int.toNat_natCast] at h1
            rw [hnodes1, hnd, h1]
            simp
          have i12' := i12
          obtain ⟨r6, r7⟩ := i12'
          rcases r6 with ⟨e0, _⟩ | ⟨bN, hnv, k2, k3, k4⟩
          · have := congrArg List.length e0
            rw [List.length_append, hlen1, List.length_nil] at this
            omega
          have hrow := rowN_get (av := av2) hx
          obtain ⟨R, hR⟩ : ∃ R, R = rowN (nodes1 ++ ns) av2 := ⟨_, rfl⟩
          rw [← hR] at hrow k4
          obtain ⟨T, hT⟩ : ∃ T, T = nd + 1 + ns.length := ⟨_, rfl⟩
          have hRl : (nodes1 ++ ns).length = T := by rw [List.length_append, hlen1, hT]
          have z2 : ∀ j, ¬ n = n2 + j := fun j => by omega
          have zN : ∀ j, ¬ bN = n2 + j := fun j => by omega
          have hbNn : ¬ bN = n := fun e => by rw [e, i10] at k3; cases k3
          rw [hnv, hRl] at i17
          have hS : ∀ (h' : Heap) (n' : Nat) (v : AV), n2 ≤ n' → (SlC eIn 1 (4 + nd) (setc (cut co2 n2) (n2 + 9) (4 + nd)) h' n' v ([] ++ (pl ++ [(aa : Int)]))) → h' bN = some (.cells (R.set nd [.int .i64 ι, v])) → (∀ x, x < n2 → x ≠ bN → (co2 x ≠ none ∨ x < n) → h' x = h2 x) → buildR co h n (nodes ++ ((ι : Int), pl ++ [(aa : Int)]) :: ns) ii aa (.tup [.sl bN 0 T 2, .int .i64 ii, .int .i64 aa]) h' n' := by
            intro h' n' v g1 g2 g3 g4
            refine ⟨.sl bN 0 T 2, fun j => if j = nd then v else av2 j, setc (cut co2 n2) (n2 + 9) (4 + nd), rfl, by omega, fun x hx => ?_, fun x hx e => ?_, ?_⟩
            · rw [setc, if_neg (show ¬ x = n2 + 9 by omega), cut_lt (by omega)]; exact i8 x hx
            · have hxN : ¬ x = bN := fun e2 => by
                have := i8 x hx
                rw [e2, k3] at this
                rw [e2, ← this] at e; cases e
              exact (g4 x (by omega) hxN (.inr hx)).trans (i9 x hx e)
            · rw [← hfinal, ← hRl, ← hnv]
              exact i12.setAt g1 (fun x hx => by rw [setc, if_neg (show ¬ x = n2 + 9 by omega), cut_lt hx]) hx hnv k2 k3 (by rw [g3, hR]) g2 fun x hx h1 h3 _ => g4 x hx h1 (.inl h3)
          rcases i13 with ⟨w0, w15⟩ | ⟨bw, w15, w1, w2, w3, w4⟩
          · refine W.rseq (k := 9) rfl fun K hK => ?_
            simp only [go_sem, i16, i17, a13, w15, zN, k4, hrow, ne_eq, not_false_eq_true, Int.reduceEq, show (0 : Nat) < 1 by omega, show (0 : Nat) < 8 by omega, show (nd : Int) < (T : Int) by omega]
            refine hK _ _ _ ?_
            clear hK K
            refine W.rseq (k := 6) rfl fun K hK => ?_
            simp only [go_sem, i15, i16, i17]
            refine hK _ _ _ ?_
            clear hK K
            refine W.ret ?_
            simp only [go_sem]
            refine hS _ _ (.sl (n2 + 9) 0 1 1) ?_ (.inr ⟨n2 + 9, by rw [w0]; rfl, by omega, by simp [setc], by simp only [go_sem, show ¬ n2 + 9 = bN by omega, w0]; rfl⟩) (by simp only [go_sem]) (fun x hx hxN _ => by simp only [go_sem, hxN, show ∀ j, ¬ x = n2 + j from fun j => by omega])
            omega
          · have zw : ∀ j, ¬ bw = n2 + j := fun j => by omega
            have hbw : ¬ bN = bw := fun e => by rw [e, w3] at k3; cases k3
            have hpl8 : pl.length ≤ 8 := by omega
            refine W.rseq (k := 9) rfl fun K hK => ?_
            simp only [go_sem, i16, i17, a13, w15, zN, k4, hrow, ne_eq, not_false_eq_true, Int.reduceEq, show (0 : Nat) < 1 by omega, show (0 : Nat) < 8 by omega, show (nd : Int) < (T : Int) by omega, w4, zw, hbw, Nat.lt_irrefl, and_false, if_false, show (pl.length + 1) * 8 ≤ 140737488355328 by omega]
            refine hK _ _ _ ?_
            clear hK K
            refine W.rseq (k := 6) rfl fun K hK => ?_
            simp only [go_sem, i15, i16, i17]
            refine hK _ _ _ ?_
            clear hK K
            refine W.ret ?_
            simp only [go_sem]
            refine hS _ _ (.sl (n2 + 9) 0 (pl.length + 1) 1) ?_ (.inr ⟨n2 + 9, by simp, by omega, by simp [setc], by simp only [go_sem, show ¬ n2 + 9 = bN by omega, List.map_append]; rfl⟩) (by simp only [go_sem]) (fun x hx hxN hx2 => by
              have hxw : ¬ x = bw := fun e => by
                rcases hx2 with h3 | h3
                · exact h3 (e ▸ w3)
                · omega
              simp only [go_sem, hxN, hxw, show ∀ j, ¬ x = n2 + j from fun j => by omega])
            omega
      clear hK
      rcases nv2 with ⟨rfl, hn0⟩ | ⟨b, rfl, k2, k3, k4⟩
      · simp only [go_sem, c1, c2, c4, hj, ne_eq, not_false_eq_true, Int.reduceEq, show (0 : Nat) < 1 by omega, show (0 : Nat) < 2 by omega, show (0 : Nat) < 32 by omega]
        have hr0 : nodes.length = 0 := by omega
        have hA0 : rowN nodes av = [] := by rw [← hA]; exact List.eq_nil_of_length_eq_zero (by omega)
        have hsn := hN'.snoc (co' := setc (cut co n) (n1 + 7) 3) (h' := upd (upd (upd h n (some (.cells [[.int .i64 g.terms, .int .i64 g.nons, .int .i64 g.start, .ro (g.prods.map ePr)]]))) (n1 + 6) (some (.cells [[.int .i64 ι, .nils]]))) (n1 + 7) (some (.cells [[.int .i64 ι, .nils]]))) (n' := n1 + 9) (x := (ι : Int)) (b := n1 + 7) (by omega) (fun x hx => by rw [setc, if_neg (show ¬ x = n1 + 7 by omega), cut_lt hx]) (by omega) (by simp [setc]) (by simp only [go_sem, hA0]) fun x hx h1 h3 => by simp only [go_sem, show ∀ j, ¬ x = n1 + j from fun j => by omega, show ¬ x = n by omega]
        rw [hr0] at hsn
        refine nx2 _ _ _ (setc (cut co n) (n1 + 7) 3) _ _ (by omega) (fun x hx => by rw [setc, if_neg (show ¬ x = n1 + 7 by omega), cut_lt hx]) (fun x hx _ => by simp only [go_sem, show ∀ j, ¬ x = n1 + j from fun j => by omega, show ¬ x = n by omega]) (by rw [setc, if_neg (zn 7), cut_ge (Nat.le_refl _)]) (by simp only [go_sem, zn]) (by rw [hnodes1]; exact hsn) c1 c2 c3 rfl c5 c13
      · have zb : ∀ j, ¬ b = n1 + j := fun j => by omega
        have hbn : ¬ b = n := by omega
        simp only [go_sem, c1, c2, c4, hj, k4, hAl, zb, hbn, Nat.lt_irrefl, and_false, if_false, ne_eq, not_false_eq_true, Int.reduceEq, show (0 : Nat) < 1 by omega, show (0 : Nat) < 2 by omega, show (0 : Nat) < 32 by omega, show (nd + 1) * 32 ≤ 140737488355328 by omega]
        have hsn := hN'.snoc (co' := setc (cut co n) (n1 + 7) 3) (h' := upd (upd (upd (upd h n (some (.cells [[.int .i64 g.terms, .int .i64 g.nons, .int .i64 g.start, .ro (g.prods.map ePr)]]))) (n1 + 6) (some (.cells [[.int .i64 ι, .nils]]))) b none) (n1 + 7) (some (.cells (A ++ [[.int .i64 ι, .nils]])))) (n' := n1 + 9) (x := (ι : Int)) (b := n1 + 7) (by omega) (fun x hx => by rw [setc, if_neg (show ¬ x = n1 + 7 by omega), cut_lt hx]) (by omega) (by simp [setc]) (by simp only [go_sem, hA]) fun x hx h1 h3 => by
          have hxb : ¬ x = b := fun e => h3 (e ▸ k3)
          simp only [go_sem, hxb, show ∀ j, ¬ x = n1 + j from fun j => by omega, show ¬ x = n by omega]
        rw [← hnd] at hsn
        refine nx2 _ _ _ (setc (cut co n) (n1 + 7) 3) _ _ (by omega) (fun x hx => by rw [setc, if_neg (show ¬ x = n1 + 7 by omega), cut_lt hx]) (fun x hx e => ?_) (by rw [setc, if_neg (zn 7), cut_ge (Nat.le_refl _)]) (by simp only [go_sem, zn, show ¬ n = b from fun e => hbn e.symm]) (by rw [hnodes1]; exact hsn) c1 c2 c3 rfl c5 c13
        have hxb : ¬ x = b := fun e2 => by rw [e2, k3] at e; cases e
        simp only [go_sem, hxb, show ∀ j, ¬ x = n1 + j from fun j => by omega, show ¬ x = n by omega]
    clear hK
    rcases nv2 with ⟨rfl, hn0⟩ | ⟨b, rfl, k2, k3, k4⟩
    · simp only [go_sem]
      exact nx0 _ _ (by omega) rfl rfl rfl rfl rfl (by rw [hn0]; rfl)
    · simp only [go_sem]
      exact nx0 _ _ (by omega) rfl rfl rfl rfl rfl rfl

end Go.Av

