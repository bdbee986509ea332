/-
  Layer 12, package follow: what stands behind nonterminals. Conditions: none.
-/
import Derived.Test.YtiiogleijmcccaaC12
import Derived.Test.YtiiogleijmcccaaF6
import Derived.Test.YtiiogleijmcccaaSS
namespace Go.Av
open Go.Proofs
set_option maxRecDepth 100000
set_option linter.unusedSimpArgs false
set_option linter.unusedVariables false

/-- A slice of one's own: none, or a block. -/
def SlL {α : Type} (e : α → List AV) (sz : Nat) (h : Heap) (lo n : Nat) (v : AV) (l : List α) : Prop := (l = [] ∧ v = .nils) ∨ ∃ b, v = .sl b 0 l.length sz ∧ lo ≤ b ∧ b < n ∧ h b = some (.cells (l.map e))

theorem SlL.next {α : Type} {e : α → List AV} {sz : Nat} {h h' : Heap} {lo lo' n n' : Nat} {v v' : AV} {l : List α} (c : SlL e sz h lo n v l) (hv : v' = v) (hh : ∀ x, lo ≤ x → x < n → h' x = h x) (hn : n ≤ n') (hl : lo' ≤ lo) : SlL e sz h' lo' n' v' l := by
  subst hv
  rcases c with c | ⟨b, c1, c2, c3, c4⟩
  · exact .inl c
  · exact .inr ⟨b, c1, by omega, by omega, by rw [hh b c2 c3]; exact c4⟩

theorem SlL.frz {α : Type} {e : α → List AV} {sz : Nat} {fr : Bool} {h : Heap} {lo n d : Nat} {v : AV} {l : List α} (c : SlL e sz h lo n v l) (he : ∀ x ∈ l, rfs fr d h (e x) = some (e x)) : rf fr (d + 2) h v = some (.ro (l.map e)) := by
  rcases c with ⟨rfl, rfl⟩ | ⟨b, rfl, _, _, c⟩
  · simp [rf]
  · exact rf_sla c (by simp) (rfe_map he)

theorem cut_map {α : Type} {e : α → List AV} {l : List α} {k : Nat} : ((l.map e).drop k).take (l.length - k) = (l.drop k).map e := by
  rw [← List.map_drop, List.take_of_length_le (by simp)]

theorem len_map {α : Type} {e : α → List AV} {sz : Nat} (he : ∀ x, (e x).length = sz) {l : List α} : (∀ y ∈ l.map e, y.length = sz) = True := by
  simp [he]

theorem beh_len {g : Gr} {left : Int} : ∀ r : List Sy, (behL g left r).length ≤ r.length
  | [] => Nat.le_refl _
  | s :: r => by
    have := beh_len (g := g) (left := left) r
    rw [behL]
    split <;> simp <;> omega

set_option maxHeartbeats 4000000 in
theorem f96 (g : Gr) (hg : g.Small) (hr : right g = true) : PF pg Tq 96 [.agg (eGr g)] (.ro ((placesL g).map eBh)) := by
  obtain ⟨_, _, _, hp60, h5⟩ := right_in hr
  have fin : FH pg Tq 96 [.agg (eGr g)] h0 0 fun r h n => SlL eBh 4 h 0 n r (placesL g) := by
    refine FH.of (N := 50) (rs := #[.tmp 2]) Try.func96 rfl rfl (of_decide_eq_true rfl) rfl (by decide) ?_
    refine W.rseq (k := 2) rfl fun K hK => ?_
    simp only [go_sem]
    refine hK _ _ _ ?_
    clear hK K
    refine W.rseq (k := 1) rfl fun K hK => ?_
    simp only [go_sem]
    refine hK _ _ _ ?_
    clear hK K
    refine W.seq ?_
    refine W.rseq (k := 4) rfl fun K hK => ?_
    simp only [go_sem]
    refine hK _ _ _ ?_
    clear hK K
    refine W.block (W.while (fun m t h n => ∃ (i : Nat) (L : List Bh), m = g.prods.length - i ∧ i ≤ g.prods.length ∧ 0 < n ∧ L.length ≤ 8 * i ∧ L ++ (g.prods.drop i).flatMap (fun p => behL g p.left p.right) = placesL g ∧ h 0 = some (.cells [eGr g]) ∧ t 1 = .ptr 0 0 0 ∧ t 11 = .ro (g.prods.map ePr) ∧ t 12 = .int .i64 g.prods.length ∧ t 13 = .int .i64 i ∧ SlL eBh 4 h 1 n (t 3) L) g.prods.length
      ⟨0, [], by simp, by simp, by omega, by simp, by simp [placesL], by simp only [go_sem], rfl, rfl, rfl, rfl, .inl ⟨rfl, rfl⟩⟩ fun m t h n ⟨i, L, i1, i2, i3, i4, i5, i6, i7, i8, i9, i10, i11⟩ => ?_)
    refine W.rseq (k := 1) rfl fun K hK => ?_
    simp only [go_sem, i9, i10]
    refine hK _ _ _ ?_
    clear hK K
    refine W.seq ?_
    refine W.cond rfl (fun hc => ?_) fun hc => ?_
    · refine W.skip ?_
      simp only [go_sem]
      have hi : i < g.prods.length := by simp at hc; omega
      obtain ⟨p, hp⟩ := get_some hi
      have hm : p ∈ g.prods := List.mem_of_getElem? hp
      have h8 : p.right.length ≤ 8 := (h5 p hm).2.1
      have hdr : g.prods.drop i = p :: g.prods.drop (i + 1) := by
        rw [List.drop_eq_getElem_cons hi]
        congr 1
        exact (List.getElem_eq_iff hi).2 hp
      rw [hdr, List.flatMap_cons, ← List.append_assoc] at i5
      refine W.seq (W.block ?_)
      refine W.rseq (k := 4) rfl fun K hK => ?_
      simp only [go_sem, i8, i10, hp]
      refine hK _ _ _ ?_
      clear hK K
      refine W.rseq (k := 4) rfl fun K hK => ?_
      simp only [go_sem]
      refine hK _ _ _ ?_
      clear hK K
      obtain ⟨bp, hbp⟩ : ∃ bp, bp = n + 3 := ⟨_, rfl⟩
      refine W.block (W.while (fun m t h n => ∃ (k : Nat) (M : List Bh), m = p.right.length - k ∧ k ≤ p.right.length ∧ bp < n ∧ M.length ≤ 8 * i + k ∧ (M ++ behL g p.left (p.right.drop k)) ++ (g.prods.drop (i + 1)).flatMap (fun p => behL g p.left p.right) = placesL g ∧ h 0 = some (.cells [eGr g]) ∧ h bp = some (.cells [ePr p]) ∧ t 1 = .ptr 0 0 0 ∧ t 5 = .ptr bp 0 0 ∧ t 11 = .ro (g.prods.map ePr) ∧ t 12 = .int .i64 g.prods.length ∧ t 13 = .int .i64 i ∧ t 18 = .ro (p.right.map eSy) ∧ t 19 = .int .i64 p.right.length ∧ t 20 = .int .i64 k ∧ SlL eBh 4 h 1 n (t 3) M ∧ ∀ b len, t 3 = .sl b 0 len 4 → b ≠ bp) p.right.length
        ⟨0, L, by simp, by simp, by omega, by omega, by simpa using i5, ?_, ?_, i7, by rw [hbp]; rfl, i8, i9, i10, rfl, rfl, rfl, i11.next rfl ?_ (by omega) (by omega), ?_⟩ fun m t h n ⟨k, M, k1, k2, k3, k4, k5, k6, k7, k8, k9, k10, k11, k12, k13, k14, k15, k16, k17⟩ => ?_)
      · simp only [go_sem, show ¬ 0 = n + 3 by omega, i6]
      · simp only [go_sem, hbp]
      · intro x hx hx'; simp only [go_sem, show ¬ x = n + 3 by omega]
      · intro b len hb
        rcases i11 with ⟨_, e⟩ | ⟨b', e, _, hb', _⟩
        · have hb2 : t 3 = .sl b 0 len 4 := hb
          rw [e] at hb2; cases hb2
        · have hb2 : t 3 = .sl b 0 len 4 := hb
          rw [e] at hb2; cases hb2; omega
      refine W.rseq (k := 1) rfl fun K hK => ?_
      simp only [go_sem, k14, k15]
      refine hK _ _ _ ?_
      clear hK K
      refine W.seq ?_
      refine W.cond rfl (fun hc2 => ?_) fun hc2 => ?_
      · refine W.skip ?_
        simp only [go_sem]
        have hk : k < p.right.length := by simp at hc2; omega
        obtain ⟨s, hs⟩ := get_some hk
        have hsd : p.right.drop k = s :: p.right.drop (k + 1) := by
          rw [List.drop_eq_getElem_cons hk]
          congr 1
          exact (List.getElem_eq_iff hk).2 hs
        rw [hsd, behL] at k5
        have z0 : ∀ j, ¬ 0 = n + j := fun j => by omega
        have zp : ∀ j, ¬ bp = n + j := fun j => by omega
        refine W.seqk fun K hK => ?_
        have nx : ∀ (M' : List Bh) (t' : Fr) (h' : Heap) (n' : Nat), bp < n' → M'.length ≤ 8 * i + (k + 1) → (M' ++ behL g p.left (p.right.drop (k + 1))) ++ (g.prods.drop (i + 1)).flatMap (fun p => behL g p.left p.right) = placesL g → h' 0 = some (.cells [eGr g]) → h' bp = some (.cells [ePr p]) → t' 1 = .ptr 0 0 0 → t' 5 = .ptr bp 0 0 → t' 11 = .ro (g.prods.map ePr) → t' 12 = .int .i64 g.prods.length → t' 13 = .int .i64 i → t' 18 = .ro (p.right.map eSy) → t' 19 = .int .i64 p.right.length → t' 20 = .int .i64 k → SlL eBh 4 h' 1 n' (t' 3) M' → (∀ b len, t' 3 = .sl b 0 len 4 → b ≠ bp) → K t' h' n' := by
          intro M' t' h' n' a1 a2 a3 e1 e2 e3 e4 e5 e6 e7 e8 e9 e10 e11 e12
          refine hK _ _ _ ?_
          refine W.region (k := 2) rfl ?_
          simp only [go_sem, e10]
          refine ⟨p.right.length - (k + 1), by omega, k + 1, M', rfl, by omega, by omega, by omega, by simpa using a3, ?_, ?_, e3, e4, e5, e6, e7, e8, e9, ?_, e11.next rfl ?_ (by omega) (Nat.le_refl _), e12⟩
          · simp only [go_sem, e1]
          · simp only [go_sem, e2]
          · rw [wrap64 (by omega) (by omega)]; rfl
          · intro y hy hy'; simp only [go_sem]
        clear hK
        refine W.block ?_
        refine W.rseq (k := 6) rfl fun K hK => ?_
        simp only [go_sem, k13, k15, hs]
        refine hK _ _ _ ?_
        clear hK K
        refine W.rseq (k := 2) rfl fun K hK => ?_
        simp only [go_sem]
        refine hK _ _ _ ?_
        clear hK K
        cases hn : s.non
        · rw [hn] at k5
          simp only [Bool.false_eq_true, if_false] at k5
          refine W.condF (by simp only [go_sem, hn]) ?_
          refine W.skip ?_
          simp only [go_sem]
          refine nx M _ _ _ (by omega) (by omega) k5 (by simp only [go_sem, z0, k6]) (by simp only [go_sem, zp, k7]) k8 k9 k10 k11 k12 k13 k14 k15 (k16.next rfl ?_ (by omega) (Nat.le_refl _)) k17
          intro x hx hx'; simp only [go_sem, show ∀ j, ¬ x = n + j from fun j => by omega]
        · rw [hn] at k5
          simp only [if_true] at k5
          refine W.condT (by simp only [go_sem, hn]) ?_
          have hw1 : IntKind.wrap .i64 ((k : Int) + 1) = ((k + 1 : Nat) : Int) := wrap64 (by omega) (by omega)
          refine W.dseq (k := 12) rfl fun K hK => ?_
          simp only [go_sem, show bp < n + 9 by omega, show 0 < n + 9 by omega, k8, k9, k15, k6, k7, z0, zp, hw1, cut_map, len_map (e := eSy) (sz := 2) (fun _ => rfl), show k + 1 ≤ p.right.length by omega]
          refine VCall.frzq 6 (rfs_cons rfl (rfs_cons rfl rfs_nil)) (f43 g hg (p.right.drop (k + 1)) (by simp; omega)) ?_
          simp only [go_sem]
          refine hK _ _ _ _ (by kernel_rfl) ?_
          clear hK K
          obtain ⟨x, hx⟩ : ∃ x : Bh, x = ⟨s.n, p.left, (ofL g (p.right.drop (k + 1))).1, (ofL g (p.right.drop (k + 1))).2⟩ := ⟨_, rfl⟩
          have hex : eBh x = [.int .i64 s.n, .int .i64 p.left, .int .u32 ((ofL g (p.right.drop (k + 1))).1 : Nat), .bool (ofL g (p.right.drop (k + 1))).2] := by rw [hx]; rfl
          rw [← hx] at k5
          have k5' : ((M ++ [x]) ++ behL g p.left (p.right.drop (k + 1))) ++ (g.prods.drop (i + 1)).flatMap (fun p => behL g p.left p.right) = placesL g := by simpa using k5
          refine W.region (k := 11) rfl ?_
          rcases k16 with ⟨e0, e5⟩ | ⟨b, e5, b1, b2, b3⟩
          · simp only [go_sem, e5, k8, k9, k6, k7, z0, zp, ne_eq, not_false_eq_true, Int.reduceEq, show (0 : Nat) < 1 by omega, show (0 : Nat) < 4 by omega, show (0 : Nat) < 24 by omega]
            refine nx (M ++ [x]) _ _ _ (by omega) (by simp; omega) k5' (by simp only [go_sem, z0, k6]) (by simp only [go_sem, zp, k7]) k8 k9 k10 k11 k12 k13 k14 k15 (.inr ⟨_, by rw [e0]; rfl, by omega, by omega, ?_⟩) fun b len hb => by cases hb; omega
            rw [e0]; simp [upd, hex]
          · simp only [go_sem, e5, b3, k8, k9, k6, k7, z0, zp, ne_eq, not_false_eq_true, Int.reduceEq, show (0 : Nat) < 1 by omega, show (0 : Nat) < 4 by omega, show (0 : Nat) < 24 by omega, show (M.length + 1) * 24 ≤ 140737488355328 by omega, show ¬ (M.length + 1 ≤ M.length) by omega, show ∀ j, ¬ (b = n + j) from fun j => by omega]
            refine nx (M ++ [x]) _ _ _ (by omega) (by simp; omega) k5' (by simp only [go_sem, z0, show ¬ 0 = b by omega, k6]) ?_ k8 k9 k10 k11 k12 k13 k14 k15 (.inr ⟨_, by rw [List.length_append]; rfl, by omega, by omega, ?_⟩) fun b len hb => by cases hb; omega
            · have := k17 b _ e5; simp only [go_sem, zp, show ¬ bp = b by omega, k7]
            · simp [upd, hex]
      · refine W.exit ?_
        simp only [go_sem]
        have hk : k = p.right.length := by simp at hc2; omega
        subst hk
        rw [List.drop_length, behL, List.append_nil] at k5
        refine W.region (k := 2) rfl ?_
        simp only [go_sem, k12]
        refine ⟨g.prods.length - (i + 1), by omega, i + 1, M, rfl, by omega, by omega, by omega, k5, ?_, k8, k10, k11, ?_, k16.next rfl ?_ (by omega) (Nat.le_refl _)⟩
        · simp only [go_sem, k6]
        · rw [wrap64 (by omega) (by omega)]; rfl
        · intro x hx hx'; simp only [go_sem]
    · refine W.exit ?_
      simp only [go_sem]
      have hi : i = g.prods.length := by simp at hc; omega
      subst hi
      rw [List.drop_length, List.flatMap_nil, List.append_nil] at i5
      refine W.rseq (k := 2) rfl fun K hK => ?_
      simp only [go_sem]
      refine hK _ _ _ ?_
      clear hK K
      refine W.ret ?_
      simp only [go_sem]
      rw [← i5]
      exact i11.next rfl (fun x hx hx' => by simp only [go_sem]) (by omega) (by omega)
  obtain ⟨r, h', n', hb, ho⟩ := fin
  exact ⟨_, h', n', hb, 5, fun fr => ho.frz (d := 3) fun x _ => by simp [rfs, rf, eBh]⟩

end Go.Av

