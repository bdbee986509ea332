/-
  Layer 16, the document's answer: the wild grammar, walked. Conditions: none.
-/
import Derived.Test.YtiiogleijmcccaaY2
namespace Go.Av
open Go.Proofs
set_option maxRecDepth 100000
set_option linter.unusedSimpArgs false
set_option linter.unusedVariables false

/-- As PF, of a result that may hold frozen arguments. -/
def PFR (f : FuncId) (args : List AV) (res : AV) : Prop := ∃ r h' n', Big pg Tq (.fn f args h0 0 r h' n') ∧ ∃ d, rf true d h' r = some res

theorem VCall.frzr {s : Nat} {g : FuncId} {args : List AV} {h : Heap} {x : Nat} {k : Cls → AV → Heap → Nat → Prop} {res : AV} (d : Nat) (hf : PFR g args res) (hr : rfs true d h0 args = some args) (hk : k .L res h x) : VCall pg Tq s g args h x k := by
  obtain ⟨r, h', n', hb, d', hR⟩ := hf
  exact .inr (.inl ⟨false, d, d', _, r, res, h', n', hr, hb, hR, hk⟩)

theorem wildR_at {m : Int} {r : List Sy} {k : Nat} {s : Sy} (h : r[k]? = some s) : wildR m r k = r.take k ++ [bump m s] := by rw [wildR, h]

theorem wildR_len {m : Int} {r : List Sy} {k : Nat} {s : Sy} (h : r[k]? = some s) : (wildR m r k).length = k + 1 := by
  have := (List.getElem?_eq_some_iff.1 h).1
  rw [wildR_at h, List.length_append, List.length_take, List.length_singleton]
  omega

theorem range_drop {n k : Nat} (h : k < n) : (List.range n).drop k = k :: (List.range n).drop (k + 1) := by
  rw [List.drop_eq_getElem_cons (by simpa using h)]
  congr 1
  simp

set_option maxHeartbeats 16000000 in
theorem f83 (g : Gr) (hg : g.Small) (hr : right g = true) (hne : g.prods ≠ []) : PFR 83 [.agg (eGr g)] (.agg (eGr (wildG g))) := by
  obtain ⟨⟨hn1, hn2⟩, ⟨ht1, ht2⟩, ⟨hs1, hs2⟩, hp60, h5⟩ := right_in hr
  have hem : (g.prods.map ePr).isEmpty = false := by
    rw [List.isEmpty_eq_false_iff]
    intro e
    exact hne (List.map_eq_nil_iff.1 e)
  have tkp : (g.prods.map ePr).take g.prods.length = g.prods.map ePr := List.take_of_length_le (by simp)
  have fin : FH pg Tq 83 [.agg (eGr g)] h0 0 fun r h n => ∃ bp pv, r = .agg [.int .i64 g.terms, .int .i64 (2 * g.nons), .int .i64 (g.nons + g.start), .sl bp 0 pv.length 2] ∧ WT h n 17 bp pv ∧ pv.map (·.1) = (wildG g).prods := by
    refine FH.of (N := 89) (rs := #[.cell 2 24]) Try.func83 rfl rfl (of_decide_eq_true rfl) rfl (by decide) ?_
    refine W.rseq (k := 2) rfl fun K hK => ?_
    simp only [go_sem]
    refine hK _ _ _ ?_
    clear hK K
    refine W.dseq (k := 17) rfl fun K hK => ?_
    simp only [go_sem, hem, tkp, List.length_map, len_map (e := ePr) (sz := 2) (fun x => rfl), Bool.false_eq_true, if_false, show g.prods.length * 32 ≤ 140737488355328 by omega, wrap64 (show -9223372036854775808 ≤ 2 * g.nons by omega) (by omega), wrap64 (show -9223372036854775808 ≤ g.nons + g.start by omega) (by omega)]
    refine hK _ _ _ _ (by kernel_rfl) ?_
    clear hK K
    obtain ⟨pv0, hpv0⟩ : ∃ pv0, pv0 = g.prods.map fun p => ((p, .ro (p.right.map eSy)) : Pr × AV) := ⟨_, rfl⟩
    have hp0 : pv0.map ePv = g.prods.map ePr := by rw [hpv0, List.map_map]; rfl
    have hp1 : pv0.map (·.1) = g.prods := by rw [hpv0, List.map_map]; exact List.map_id _
    have hp2 : pv0.length = g.prods.length := by rw [hpv0, List.length_map]
    have hp3 : pv0 ≠ [] := fun e => by rw [e] at hp2; exact hne (List.length_eq_zero_iff.1 hp2.symm)
    refine W.seqk fun K hK => ?_
    refine W.rseq (k := 1) rfl fun K hK => ?_
    simp only [go_sem]
    refine hK _ _ _ ?_
    clear hK K
    have nx0 : ∀ (t' : Fr) (h' : Heap) (n' : Nat) (bp : Nat) (pv : List (Pr × AV)), 17 < n' → h' 1 = some (.cells [[.int .i64 0, .int .i64 0, .int .i64 0, .nils]]) → h' 17 = some (.cells [[.int .i64 g.terms, .int .i64 (2 * g.nons), .int .i64 (g.nons + g.start), .sl bp 0 pv.length 2]]) → WT h' n' 17 bp pv → pv.map (·.1) = (wildG g).prods → (t' 2 = .ptr 1 0 0 ∧ t' 3 = .ptr 17 0 0) → K t' h' n' := by
      intro t' h' n' bp pv e1 e2 e3 e4 e5 e6
      obtain ⟨a2, a3⟩ := e6
      refine hK _ _ _ ?_
      clear hK K
      refine W.rseq (k := 2) rfl fun K hK => ?_
      simp only [go_sem, a2, a3, e2, e3]
      refine hK _ _ _ ?_
      clear hK K
      refine W.ret ?_
      simp only [go_sem, a2]
      exact ⟨bp, pv, rfl, e4.next (by omega) (fun x h1 h2 h3 => by simp only [go_sem, show ¬ x = 1 by omega]) (by omega), e5⟩
    clear hK
    obtain ⟨m, hm⟩ : ∃ m : Int, m = g.nons := ⟨_, rfl⟩
    refine W.block (W.while (fun k t h n => ∃ (i bp : Nat) (pv : List (Pr × AV)), k = g.prods.length - i ∧ i ≤ g.prods.length ∧ 17 < n ∧ h 0 = some (.cells [eGr g]) ∧ h 1 = some (.cells [[.int .i64 0, .int .i64 0, .int .i64 0, .nils]]) ∧ h 17 = some (.cells [[.int .i64 g.terms, .int .i64 (2 * g.nons), .int .i64 (g.nons + g.start), .sl bp 0 pv.length 2]]) ∧ WT h n 17 bp pv ∧ pv.map (·.1) ++ (g.prods.drop i).flatMap (wildP g.nons) = (wildG g).prods ∧ pv.length ≤ 60 + 9 * i ∧ (t 1 = .ptr 0 0 0 ∧ t 2 = .ptr 1 0 0 ∧ t 3 = .ptr 17 0 0) ∧ t 4 = .int .i64 i) g.prods.length
      ⟨0, 15, pv0, by simp, by simp, by omega, by simp only [go_sem], by simp only [go_sem], by rw [hp2]; simp only [go_sem], ⟨by rw [hp0]; simp only [go_sem], by omega, by omega, by omega, hp3, fun x hx => ?_⟩, by rw [hp1]; rfl, by rw [hp2]; omega, ⟨rfl, rfl, rfl⟩, rfl⟩ fun k t h n ⟨i, bp, pv, i1, i2, i3, i4, i5, i6, i7, i8, i9, i10, i11⟩ => ?_)
    · rw [hpv0] at hx
      obtain ⟨p, _, rfl⟩ := List.mem_map.1 hx
      exact .inl rfl
    have i10' := i10
    obtain ⟨a1, a2, a3⟩ := i10'
    refine W.seq ?_
    refine W.rseq (k := 5) rfl fun K hK => ?_
    simp only [go_sem, a1, i4, i11]
    refine hK _ _ _ ?_
    clear hK K
    refine W.cond rfl (fun hc => ?_) fun hc => ?_
    · refine W.skip ?_
      simp only [go_sem]
      have hi : i < g.prods.length := by simp at hc; omega
      obtain ⟨p, hp⟩ := get_some hi
      have hpm : p ∈ g.prods := List.mem_of_getElem? hp
      obtain ⟨⟨hl0, hl1⟩, h8, hsy⟩ := h5 p hpm
      have z0 : ∀ j, ¬ 0 = n + j := fun j => by omega
      have z17 : ∀ j, ¬ 17 = n + j := fun j => by omega
      have zb : ∀ j, ¬ bp = n + j := fun j => by have := i7.hi; omega
      have hb17 : ¬ 17 = bp := fun e => i7.neB e.symm
      have hb17' : ¬ bp = 17 := i7.neB
      have hlft : IntKind.wrap .i64 (g.nons + p.left) = g.nons + p.left := wrap64 (by omega) (by omega)
      have tkv : (pv.map ePv).take pv.length = pv.map ePv := List.take_of_length_le (by simp)
      obtain ⟨R, hR⟩ : ∃ R, R = (g.prods.drop (i + 1)).flatMap (wildP g.nons) := ⟨_, rfl⟩
      have hdr : g.prods.drop i = p :: g.prods.drop (i + 1) := by
        rw [List.drop_eq_getElem_cons hi]
        congr 1
        exact (List.getElem_eq_iff hi).2 hp
      rw [hdr, List.flatMap_cons, ← hR] at i8
      refine W.seqk fun K hK => ?_
      have nx : ∀ (t' : Fr) (h' : Heap) (n' : Nat) (bp : Nat) (pv : List (Pr × AV)), 17 < n' → h' 0 = some (.cells [eGr g]) → h' 1 = some (.cells [[.int .i64 0, .int .i64 0, .int .i64 0, .nils]]) → h' 17 = some (.cells [[.int .i64 g.terms, .int .i64 (2 * g.nons), .int .i64 (g.nons + g.start), .sl bp 0 pv.length 2]]) → WT h' n' 17 bp pv → pv.map (·.1) ++ R = (wildG g).prods → pv.length ≤ 60 + 9 * i + 9 → (t' 1 = .ptr 0 0 0 ∧ t' 2 = .ptr 1 0 0 ∧ t' 3 = .ptr 17 0 0) → t' 4 = .int .i64 i → K t' h' n' := by
        intro t' h' n' bp pv e1 e2 e3 e4 e5 e6 e7 e8 e9
        refine hK _ _ _ ?_
        clear hK K
        refine W.region (k := 3) rfl ?_
        simp only [go_sem, e9]
        refine ⟨g.prods.length - (i + 1), by omega, i + 1, bp, pv, rfl, by omega, by omega, e2, e3, e4, e5.next (by omega) (fun x _ _ _ => rfl) (by omega), by rw [← hR]; exact e6, by omega, e8, ?_⟩
        rw [wrap64 (by omega) (by omega)]; rfl
      clear hK
      refine W.block ?_
      refine W.rseq (k := 7) rfl fun K hK => ?_
      simp only [go_sem, a1, i4, i11, hp, z0]
      refine hK _ _ _ ?_
      clear hK K
      refine W.rseq (k := 6) rfl fun K hK => ?_
      simp only [go_sem, a1, i4, z0, hlft]
      refine hK _ _ _ ?_
      clear hK K
      refine W.rseq (k := 8) rfl fun K hK => ?_
      simp only [go_sem, a3, i6, z17, i7.cells, zb, tkv, List.length_map, hb17, hb17', Nat.lt_irrefl, and_false, if_false, ne_eq, not_false_eq_true, Int.reduceEq, show (pv.length + 1) * 32 ≤ 140737488355328 by omega, show (0 : Nat) < 2 by omega, show (0 : Nat) < 32 by omega]
      refine hK _ _ _ ?_
      first | clear hK K | clear hK | skip
      refine W.rseq (k := 1) rfl fun K hK => ?_
      simp only [go_sem]
      refine hK _ _ _ ?_
      clear hK K
      refine W.block (W.while (fun q t h1 n1 => ∃ (k bp : Nat) (pv : List (Pr × AV)), q = p.right.length - k ∧ k ≤ p.right.length ∧ n + 10 < bp ∧ h1 0 = some (.cells [eGr g]) ∧ h1 1 = some (.cells [[.int .i64 0, .int .i64 0, .int .i64 0, .nils]]) ∧ h1 17 = some (.cells [[.int .i64 g.terms, .int .i64 (2 * g.nons), .int .i64 (g.nons + g.start), .sl bp 0 pv.length 2]]) ∧ h1 (n + 10) = some (.cells [ePr p]) ∧ WT h1 n1 17 bp pv ∧ pv.map (·.1) ++ (((List.range p.right.length).drop k).map fun k => (⟨g.nons + p.left, wildR g.nons p.right k⟩ : Pr)) ++ R = (wildG g).prods ∧ pv.length ≤ 60 + 9 * i + 1 + k ∧ (t 1 = .ptr 0 0 0 ∧ t 2 = .ptr 1 0 0 ∧ t 3 = .ptr 17 0 0) ∧ t 4 = .int .i64 i ∧ (t 5 = .ptr (n + 10) 0 0 ∧ t 6 = .int .i64 (g.nons + p.left)) ∧ t 7 = .int .i64 k) p.right.length
        ⟨0, n + 23, pv ++ [(⟨g.nons + p.left, []⟩, .nils)], by simp, by simp, by omega, by simp only [go_sem, z0, i4, show ¬ 0 = bp by have := i7.lo; omega], by simp only [go_sem, show ∀ j, ¬ 1 = n + j from fun j => by omega, i5, show ¬ 1 = bp by have := i7.lo; omega], by rw [List.length_append]; simp only [go_sem], by simp only [go_sem, show ¬ n + 10 = bp by have := i7.hi; omega, show ¬ n + 10 = 17 by omega], ?_, ?_, by rw [List.length_append, List.length_singleton]; omega, i10, i11, ⟨rfl, rfl⟩, rfl⟩ fun q t h1 n1 ⟨k, bp1, pv1, k1, k2, k3, k4, k5, k6, k7, k8, k9, k10, k11, k12, k13, k14⟩ => ?_)
      · refine i7.snoc (by omega) (fun y q1 q2 q3 q4 => by simp only [go_sem, show ∀ j, ¬ y = n + j from fun j => by omega, q3, q4]) (by omega) (by simp only [go_sem, show ¬ n + 23 = 17 by omega, List.map_append]; rfl) (by omega) (by omega) (by omega) (.inr (.inl ⟨rfl, rfl⟩))
      · rw [← i8, List.map_append, wildP]
        simp
      have hn10 : n + 10 < n1 := by have := k8.hi; omega
      clear a1 a2 a3 z0 z17 zb hb17 hb17' tkv
      have k11' := k11
      obtain ⟨a1, a2, a3⟩ := k11'
      have k13' := k13
      obtain ⟨a5, a6⟩ := k13'
      have z0 : ∀ j, ¬ 0 = n1 + j := fun j => by omega
      have z1 : ∀ j, ¬ 1 = n1 + j := fun j => by omega
      have z17 : ∀ j, ¬ 17 = n1 + j := fun j => by omega
      have z10 : ∀ j, ¬ n + 10 = n1 + j := fun j => by omega
      have zb : ∀ j, ¬ bp1 = n1 + j := fun j => by have := k8.hi; omega
      have hb17 : ¬ 17 = bp1 := fun e => k8.neB e.symm
      have hb17' : ¬ bp1 = 17 := k8.neB
      have tkv : (pv1.map ePv).take pv1.length = pv1.map ePv := List.take_of_length_le (by simp)
      refine W.seq ?_
      refine W.rseq (k := 5) rfl fun K hK => ?_
      simp only [go_sem, a5, k7, k14]
      refine hK _ _ _ ?_
      clear hK K
      refine W.cond rfl (fun hc2 => ?_) fun hc2 => ?_
      · refine W.skip ?_
        simp only [go_sem]
        have hk : k < p.right.length := by simp at hc2; omega
        obtain ⟨s, hs⟩ := get_some hk
        have hsm := hsy s (List.mem_of_getElem? hs)
        rw [range_drop hk, List.map_cons] at k9
        have hwl := wildR_len (m := g.nons) hs
        have hwa := wildR_at (m := g.nons) hs
        have hle : (p.right.take (k + 1)).length = k + 1 := by rw [List.length_take]; omega
        have hte : p.right.take (k + 1) = p.right.take k ++ [s] := by rw [List.take_add_one, hs]; rfl
        refine W.seqk fun K hK => ?_
        have nx2 : ∀ (t' : Fr) (h' : Heap) (n' : Nat) (bp : Nat) (pv : List (Pr × AV)), n + 10 < bp → h' 0 = some (.cells [eGr g]) → h' 1 = some (.cells [[.int .i64 0, .int .i64 0, .int .i64 0, .nils]]) → h' 17 = some (.cells [[.int .i64 g.terms, .int .i64 (2 * g.nons), .int .i64 (g.nons + g.start), .sl bp 0 pv.length 2]]) → h' (n + 10) = some (.cells [ePr p]) → WT h' n' 17 bp pv → pv.map (·.1) ++ ((((List.range p.right.length).drop (k + 1)).map fun k => (⟨g.nons + p.left, wildR g.nons p.right k⟩ : Pr)) ++ R) = (wildG g).prods → pv.length ≤ 60 + 9 * i + 1 + (k + 1) → (t' 1 = .ptr 0 0 0 ∧ t' 2 = .ptr 1 0 0 ∧ t' 3 = .ptr 17 0 0) → t' 4 = .int .i64 i → (t' 5 = .ptr (n + 10) 0 0 ∧ t' 6 = .int .i64 (g.nons + p.left)) → t' 7 = .int .i64 k → K t' h' n' := by
          intro t' h' n' bp pv e1 e2 e3 e4 e5 e6 e7 e8 e9 e10 e11 e12
          refine hK _ _ _ ?_
          clear hK K
          refine W.region (k := 3) rfl ?_
          simp only [go_sem, e12]
          refine ⟨p.right.length - (k + 1), by omega, k + 1, bp, pv, rfl, by omega, e1, e2, e3, e4, e5, e6.next (by omega) (fun x _ _ _ => rfl) (by omega), e7, by omega, e9, e10, e11, ?_⟩
          rw [wrap64 (by omega) (by omega)]; rfl
        clear hK nx nx0
        refine W.block ?_
        have hk1 : IntKind.wrap .i64 ((k : Int) + 1) = ((k + 1 : Nat) : Int) := by rw [wrap64 (by omega) (by omega)]; rfl
        have hz1 : (0 : Int) ≤ ((k + 1 : Nat) : Int) := by omega
        have tkm : (p.right.map eSy).take (k + 1) = (p.right.take (k + 1)).map eSy := List.map_take.symm
        have hie : ((p.right.take (k + 1)).map eSy).isEmpty = false := by rw [hte]; simp
        refine W.rseq (k := 8) rfl fun K hK => ?_
        simp only [go_sem, a5, k7, k14, z10, hk1, hz1, if_true, Int.toNat_natCast, show k + 1 ≤ p.right.length by omega, Nat.zero_le, len_map (e := eSy) (sz := 2) (fun x => rfl), Nat.sub_zero, List.drop_zero, true_and, and_self, tkm, hie, Bool.false_eq_true, if_false, List.length_map, hle, show (k + 1) * 16 ≤ 140737488355328 by omega]
        refine hK _ _ _ ?_
        first | clear hK K | clear hK | skip
        refine W.seqk fun K hK => ?_
        have nx3 : ∀ (t' : Fr) (h' : Heap) (n' : Nat), n1 + 13 < n' → h' 0 = some (.cells [eGr g]) → h' 1 = some (.cells [[.int .i64 0, .int .i64 0, .int .i64 0, .nils]]) → h' 17 = some (.cells [[.int .i64 g.terms, .int .i64 (2 * g.nons), .int .i64 (g.nons + g.start), .sl bp1 0 pv1.length 2]]) → h' (n + 10) = some (.cells [ePr p]) → WT h' n' 17 bp1 pv1 → h' (n1 + 11) = some (.cells ((wildR g.nons p.right k).map eSy)) → (t' 1 = .ptr 0 0 0 ∧ t' 2 = .ptr 1 0 0 ∧ t' 3 = .ptr 17 0 0) → t' 4 = .int .i64 i → (t' 5 = .ptr (n + 10) 0 0 ∧ t' 6 = .int .i64 (g.nons + p.left)) → t' 7 = .int .i64 k → t' 8 = .sl (n1 + 11) 0 (k + 1) 2 → K t' h' n' := by
          intro t' h' n' e1 e2 e3 e4 e5 e6 e7 e8 e9 e10 e11 e12
          refine hK _ _ _ ?_
          clear hK K
          have e8' := e8
          obtain ⟨a1, a2, a3⟩ := e8'
          have e10' := e10
          obtain ⟨a5, a6⟩ := e10'
          have z0 : ∀ j, ¬ 0 = n' + j := fun j => by omega
          have z1 : ∀ j, ¬ 1 = n' + j := fun j => by omega
          have z17 : ∀ j, ¬ 17 = n' + j := fun j => by omega
          have z10 : ∀ j, ¬ n + 10 = n' + j := fun j => by omega
          have zb : ∀ j, ¬ bp1 = n' + j := fun j => by have := e6.hi; omega
          have z8 : ∀ j, ¬ n1 + 11 = n' + j := fun j => by omega
          have tkv : (pv1.map ePv).take pv1.length = pv1.map ePv := List.take_of_length_le (by simp)
          refine W.region (k := 9) rfl ?_
          simp only [go_sem, a3, a6, e4, e12, z17, e6.cells, zb, tkv, List.length_map, hb17, hb17', Nat.lt_irrefl, and_false, if_false, ne_eq, not_false_eq_true, Int.reduceEq, show (pv1.length + 1) * 32 ≤ 140737488355328 by omega, show (0 : Nat) < 2 by omega, show (0 : Nat) < 32 by omega]
          refine nx2 _ _ _ (n' + 6) (pv1 ++ [(⟨g.nons + p.left, wildR g.nons p.right k⟩, .sl (n1 + 11) 0 (k + 1) 2)]) (by omega) (by simp only [go_sem, z0, show ¬ 0 = bp1 by omega, e2]) (by simp only [go_sem, z1, show ¬ 1 = bp1 by omega, e3]) (by rw [List.length_append]; simp only [go_sem]) (by simp only [go_sem, z10, show ¬ n + 10 = bp1 by omega, show ¬ n + 10 = 17 by omega, e5]) ?_ (by rw [← k9, List.map_append]; simp) (by rw [List.length_append, List.length_singleton]; omega) e8 e9 e10 e11
          have hbn : bp1 < n1 := k8.hi
          exact e6.snoc (by omega) (fun y q1 q2 q3 q4 => by simp only [go_sem, show ∀ j, ¬ y = n' + j from fun j => by omega, q3, q4]) (by omega) (by simp only [go_sem, show ¬ n' + 6 = 17 by omega, List.map_append]; rfl) (by omega) (by omega) (by omega) (.inr (.inr ⟨n1 + 11, by rw [hwl], by omega, by omega, by simp only [go_sem, z8, show ¬ n1 + 11 = bp1 by omega, show ¬ n1 + 11 = 17 by omega, e7]⟩))
        clear hK
        have hbn : bp1 < n1 := k8.hi
        refine W.rseq (k := 6) rfl fun K hK => ?_
        simp only [go_sem, a5, k7, k14, z10, hs]
        refine hK _ _ _ ?_
        clear hK K
        have hwt : ∀ (h' : Heap) (n' : Nat), n1 ≤ n' → (∀ x, ¬ x = n1 + 11 → h' x = h1 x) → WT h' n' 17 bp1 pv1 := fun h' n' q q' => k8.next (by omega) (fun x q1 q2 q3 => q' x (by omega)) q
        have hset : ((p.right.take (k + 1)).map eSy).set k [.bool s.non, .int .i64 (s.n + g.nons)] = (if s.non = true then wildR g.nons p.right k else []).map eSy ∨ s.non = false := by
          cases hn : s.non
          · exact .inr rfl
          · left
            have hl : ((p.right.take k).map eSy).length = k := by rw [List.length_map, List.length_take]; omega
            rw [if_pos rfl, hwa, bump, if_pos hn, hte, List.map_append, List.map_append, List.set_append_right _ _ (by omega), hl, Nat.sub_self]
            rfl
        cases hn : s.non
        · refine W.condF (by simp only [go_sem, hn]) ?_
          refine W.skip ?_
          simp only [go_sem]
          refine nx3 _ _ _ (by omega) (by simp only [go_sem, z0, k4]) (by simp only [go_sem, z1, k5]) (by simp only [go_sem, z17, k6]) (by simp only [go_sem, z10, k7]) (hwt _ _ (by omega) fun x q => by simp only [go_sem, q]) ?_ k11 k12 k13 k14 rfl
          rw [hwa, bump, hn, if_neg (by decide), ← hte]
          simp only [go_sem]
        · refine W.condT (by simp only [go_sem, hn]) ?_
          have h1k : ((p.right.take (k + 1)).map eSy)[k]? = some (eSy s) := by rw [List.getElem?_map, List.getElem?_take_of_lt (by omega), hs]; rfl
          have hwn : IntKind.wrap .i64 (s.n + g.nons) = s.n + g.nons := by
            rw [if_pos hn] at hsm
            exact wrap64 (by omega) (by omega)
          refine W.draw (k := 13) rfl ?_
          simp only [go_sem, a1, k4, k14, z0, z10, h1k, hwn, show (k : Int) < ((k + 1 : Nat) : Int) by omega]
          refine ⟨by kernel_rfl, ?_⟩
          refine nx3 _ _ _ (by omega) (by simp only [go_sem, z0, k4]) (by simp only [go_sem, z1, k5]) (by simp only [go_sem, z17, k6]) (by simp only [go_sem, z10, k7]) (hwt _ _ (by omega) fun x q => by simp only [go_sem, q]) ?_ k11 k12 k13 k14 rfl
          rcases hset with hset | hset
          · rw [if_pos hn] at hset
            simp only [go_sem]
            exact congrArg (fun l => some (AO.cells l)) hset
          · rw [hn] at hset; cases hset
      · refine W.exit ?_
        simp only [go_sem]
        have hk : k = p.right.length := by simp at hc2; omega
        rw [hk, List.drop_eq_nil_of_le (by simp), List.map_nil, List.append_nil] at k9
        exact nx _ _ _ bp1 pv1 (by omega) k4 k5 k6 (k8.next (by omega) (fun x _ _ _ => rfl) (by omega)) k9 (by omega) k11 k12
    · refine W.exit ?_
      simp only [go_sem]
      have hi : i = g.prods.length := by simp at hc; omega
      rw [hi, List.drop_length, List.flatMap_nil, List.append_nil] at i8
      exact nx0 _ _ _ bp pv (by omega) i5 i6 (i7.next (by omega) (fun x _ _ _ => rfl) (by omega)) i8 ⟨a2, a3⟩
  obtain ⟨r, h', n', hb, bp, pv, rfl, hw, hpv⟩ := fin
  refine ⟨_, h', n', hb, 9, ?_⟩
  have he : rfe true 6 h' (pv.map ePv) = some (pv.map fun x => ePr x.1) := rfe_map fun x hx => by
    have := (hw.rights x hx).frz (d := 0)
    simp only [rfs, List.mapM_cons, ePv, this]
    rfl
  have hs : rf true 7 h' (.sl bp 0 pv.length 2) = some (.ro (pv.map fun x => ePr x.1)) := rf_sla (d := 6) hw.cells (by simp) he
  have hp : (pv.map fun x => ePr x.1) = (wildG g).prods.map ePr := by rw [← hpv, List.map_map]; rfl
  rw [hp] at hs
  have hi : ∀ x : Int, rf true 7 h' (.int .i64 x) = some (.int .i64 x) := fun x => by simp [rf]
  unfold rf
  simp only [rfs, List.mapM_cons, hs, hi]
  rfl

end Go.Av

