/-
  Layer 12's statement FollowMeans: the walk. Conditions: none.
-/
import Derived.Test.YtiiogleijmcccaaG5
namespace Go.Av
open Go.Proofs
set_option maxRecDepth 100000
set_option linter.unusedSimpArgs false
set_option linter.unusedVariables false

/-- Symbols of a grammar. -/
def SyG (g : Gr) (l : List Sy) : Prop := ∀ s ∈ l, 0 ≤ s.n ∧ s.n < if s.non then g.nons else g.terms

theorem bts_zero {l : List Nat} {n t : Nat} (h : bts t l n = true) : decide (((l.getD n 0 / 2 ^ t % 2 : Nat) : Int) = 0) = false := by
  rw [bit_zero]
  have : (l.getD n 0).testBit t = true := h
  rw [this]; rfl

set_option maxHeartbeats 8000000 in
theorem f14 (g : Gr) (hg : g.Small) (u : List Int) (hu : u.length < 2 ^ 60) (hu8 : ∀ x ∈ u, 0 ≤ x ∧ x < 256) : FH pg Tq 14 [.agg (eGr g), .ro (u.map eU8)] h0 0 fun r _ _ => r = .bool true := by
  have hg1 : g.prods.length < 2 ^ 60 := hg.1
  have h52 := OwnU3.pf (f52 g hg)
  refine FH.of (N := 159) (rs := #[.tmp 4]) Try.func14 rfl rfl (of_decide_eq_true rfl) rfl (by decide) ?_
  refine W.rseq (k := 2) rfl fun K hK => ?_
  simp only [go_sem]
  refine hK _ _ _ ?_
  clear hK K
  refine W.seq ?_
  refine W.rseq (k := 2) rfl fun K hK => ?_
  simp only [go_sem]
  refine VCall.frz 6 f51 rfl ?_
  try simp only [go_sem]
  refine hK _ _ _ ?_
  clear hK K
  refine W.condF (by simp only [go_sem]) ?_
  refine W.skip ?_
  simp only [go_sem]
  refine W.seq ?_
  refine W.rseq (k := 18) rfl fun K hK => ?_
  have out : ∀ t h n, t 31 = .bool true → K t h n := by
    intro t h n e
    refine hK _ _ _ ?_
    clear hK K
    refine W.condT (by simp only [go_sem, e]) ?_
    refine W.rseq (k := 1) rfl fun K hK => ?_
    simp only [go_sem]
    refine hK _ _ _ ?_
    clear hK K
    refine W.ret ?_
    simp only [go_sem]
  simp only [go_sem]
  refine VCall.frz 6 (f28 g hg) rfl ?_
  rcases Bool.eq_false_or_eq_true (large g) with hL | hL
  · simp only [go_sem, hL]
    exact out _ _ _ rfl
  simp only [hL]
  simp only [go_sem]
  refine VCall.frz 6 (f35 g hg) rfl ?_
  cases hr : right g
  · simp only [go_sem]
    exact out _ _ _ rfl
  by_cases h40 : (40 : Int) < u.length
  · simp only [go_sem, show decide ((40 : Int) < u.length) = true by simp [h40]]
    exact out _ _ _ rfl
  by_cases hz : (g.prods.length : Int) = 0
  · simp only [go_sem, show decide ((40 : Int) < u.length) = false by simp [h40], hz]
    exact out _ _ _ rfl
  simp only [go_sem, show decide ((40 : Int) < u.length) = false by simp [h40], show decide ((g.prods.length : Int) = 0) = false from decide_eq_false hz]
  clear out
  refine hK _ _ _ ?_
  first | clear hK K | clear hK | skip
  refine W.condF (by simp only [go_sem]) ?_
  refine W.skip ?_
  simp only [go_sem]
  have hu40 : u.length ≤ 40 := by omega
  obtain ⟨⟨hn1, hn2⟩, ⟨ht1, ht2⟩, ⟨hs1, hs2⟩, hp60, h5⟩ := right_in hr
  obtain ⟨b1, b2, b3, b4, b5⟩ := follow_fin hr
  obtain ⟨M, hM⟩ : ∃ M, M = g.nons.toNat := ⟨_, rfl⟩
  have hMn : g.nons = (M : Int) := by omega
  rw [← hM] at b1
  obtain ⟨fl, hfl⟩ : ∃ fl, fl = followL g := ⟨_, rfl⟩
  rw [← hfl] at b1 b2 h52
  refine W.rseq (k := 3) rfl fun K hK => ?_
  simp only [go_sem]
  refine VCall.frz 6 h52 rfl ?_
  try simp only [go_sem]
  refine hK _ _ _ ?_
  clear hK K
  refine W.seq ?_
  refine W.rseq (k := 5) rfl fun K hK => ?_
  simp only [go_sem, b1, hMn]
  refine hK _ _ _ ?_
  clear hK K
  refine W.condF (by simp only [go_sem]) ?_
  refine W.skip ?_
  simp only [go_sem]
  refine W.rseq (k := 5) rfl fun K hK => ?_
  simp only [go_sem, show (0 : Nat) < 2 by omega, show ¬ (1 : Nat) = 0 by omega, show (0 : Nat) < 1 by omega]
  refine hK _ _ _ ?_
  clear hK K
  refine W.seq ?_
  refine W.rseq (k := 1) rfl fun K hK => ?_
  simp only [go_sem]
  refine hK _ _ _ ?_
  clear hK K
  refine W.block (W.while (fun m t h n => ∃ (i : Nat) (row : List Sy), m = u.length + 1 - i ∧ i ≤ u.length + 1 ∧ 0 < n ∧ GoodRow g row ∧ SyG g row ∧ (t 1 = .ro (u.map eU8) ∧ t 2 = .ptr 0 0 0 ∧ t 5 = .ro (fl.map eU3)) ∧ t 7 = .int .i64 i ∧ h 0 = some (.cells [eGr g]) ∧ SlL eSy 2 h 1 n (t 6) row) (u.length + 1)
    ⟨0, [⟨true, g.start⟩], by simp, by simp, by omega, good_start hr, fun s hs => ?_, ⟨rfl, rfl, rfl⟩, rfl, by simp only [go_sem, hMn], .inr ⟨_, rfl, by omega, by omega, by simp [upd, eSy]⟩⟩ fun m t h n ⟨i, row, i1, i2, i3, i4, i5, i6, i7, i8, i9⟩ => ?_)
  · simp at hs; subst hs; simp; omega
  have i6' := i6
  obtain ⟨a1, a2, a5⟩ := i6'
  have hw1 : IntKind.wrap .i64 ((i : Int) + 1) = ((i + 1 : Nat) : Int) := wrap64 (by omega) (by omega)
  refine W.seq ?_
  refine W.rseq (k := 5) rfl fun K hK => ?_
  simp only [go_sem, a1, i7, hw1]
  refine hK _ _ _ ?_
  clear hK K
  refine W.cond rfl (fun hc => ?_) fun hc => ?_
  · refine W.skip ?_
    simp only [go_sem]
    have hi : i + 1 < u.length := by simp at hc; omega
    obtain ⟨x1, hx1⟩ := get_some hi
    obtain ⟨x0, hx0⟩ := get_some (show i < u.length by omega)
    have h81 := hu8 x1 (List.mem_of_getElem? hx1)
    have h80 := hu8 x0 (List.mem_of_getElem? hx0)
    obtain ⟨ξ1, rfl⟩ : ∃ ξ : Nat, x1 = ξ := ⟨x1.toNat, by omega⟩
    obtain ⟨ξ0, rfl⟩ : ∃ ξ : Nat, x0 = ξ := ⟨x0.toNat, by omega⟩
    have hwx1 : IntKind.wrap .i64 (ξ1 : Int) = ξ1 := wrap64 (by omega) (by omega)
    have hwx0 : IntKind.wrap .i64 (ξ0 : Int) = ξ0 := wrap64 (by omega) (by omega)
    have hm1 : (ξ1 : Int).tmod (g.prods.length : Int) = ((ξ1 % g.prods.length : Nat) : Int) := by
      rw [Int.tmod_eq_emod_of_nonneg (by omega)]; rfl
    have hlp : 0 < g.prods.length := by omega
    obtain ⟨p, hp⟩ := get_some (Nat.mod_lt ξ1 hlp)
    have hm : p ∈ g.prods := List.mem_of_getElem? hp
    obtain ⟨hl0', h8, hsy⟩ := h5 p hm
    have z0 : ∀ j, ¬ 0 = n + j := fun j => by omega
    have l0 : ∀ j, (0 < n + j) = True := fun j => eq_true (by omega)
    have hzf : ¬ (g.prods.length : Int) = 0 := hz
    obtain ⟨bp, hbp⟩ : ∃ bp, bp = n + 19 := ⟨_, rfl⟩
    refine W.seqk fun K hK => ?_
    have nx : ∀ (row' : List Sy) (t' : Fr) (h' : Heap) (n' : Nat), 0 < n' → GoodRow g row' → SyG g row' → (t' 1 = .ro (u.map eU8) ∧ t' 2 = .ptr 0 0 0 ∧ t' 5 = .ro (fl.map eU3)) → t' 7 = .int .i64 i → h' 0 = some (.cells [eGr g]) → SlL eSy 2 h' 1 n' (t' 6) row' → K t' h' n' := by
      intro row' t' h' n' e1 e2 e3 e4 e5 e6 e7
      refine hK _ _ _ ?_
      refine W.region (k := 3) rfl ?_
      simp only [go_sem, e5]
      refine ⟨u.length + 1 - (i + 2), by omega, i + 2, row', rfl, by omega, by omega, e2, e3, e4, ?_, ?_, e7.next rfl ?_ (by omega) (Nat.le_refl _)⟩
      · rw [wrap64 (by omega) (by omega)]; rfl
      · simp only [go_sem, e6]
      · intro y hy hy'; simp only [go_sem]
    clear hK
    refine W.block ?_
    refine W.dseq (k := 16) rfl fun K hK => ?_
    simp only [go_sem, a1, a2, i7, i8, z0, l0, hw1, hx1, hwx1, hm1, hp, hzf, ne_eq, not_false_eq_true, show (i + 1 : Nat) < u.length by omega]
    refine hK _ _ _ _ (by kernel_rfl) ?_
    clear hK K
    rcases i9 with ⟨e0, e6⟩ | ⟨b, e6, lb1, lb2, lb3⟩
    · refine W.seq ?_
      refine W.rseq (k := 8) rfl fun K hK => ?_
      simp only [go_sem, e6]
      refine hK _ _ _ ?_
      clear hK K
      refine W.condT (by simp only [go_sem]) ?_
      refine W.exit ?_
      simp only [go_sem]
      refine W.rseq (k := 1) rfl fun K hK => ?_
      simp only [go_sem]
      refine hK _ _ _ ?_
      clear hK K
      refine W.ret ?_
      simp only [go_sem]
    have zb : ∀ j, ¬ b = n + j := fun j => by omega
    have lb : ∀ j, (b < n + j) = True := fun j => eq_true (by omega)
    have lbp : ∀ j, (bp < n + 21 + j) = True := fun j => eq_true (by omega)
    by_cases hr0 : (row.length : Int) = 0
    · refine W.seq ?_
      refine W.rseq (k := 8) rfl fun K hK => ?_
      simp only [go_sem, e6, hr0]
      refine hK _ _ _ ?_
      clear hK K
      refine W.condT (by simp only [go_sem]) ?_
      refine W.exit ?_
      simp only [go_sem]
      refine W.rseq (k := 1) rfl fun K hK => ?_
      simp only [go_sem]
      refine hK _ _ _ ?_
      clear hK K
      refine W.ret ?_
      simp only [go_sem]
    by_cases h60 : (60 : Int) < row.length
    · refine W.seq ?_
      refine W.rseq (k := 8) rfl fun K hK => ?_
      simp only [go_sem, e6, show decide ((row.length : Int) = 0) = false from decide_eq_false hr0, show decide ((60 : Int) < row.length) = true from decide_eq_true h60]
      refine hK _ _ _ ?_
      clear hK K
      refine W.condT (by simp only [go_sem]) ?_
      refine W.exit ?_
      simp only [go_sem]
      refine W.rseq (k := 1) rfl fun K hK => ?_
      simp only [go_sem]
      refine hK _ _ _ ?_
      clear hK K
      refine W.ret ?_
      simp only [go_sem]
    refine W.seq ?_
    refine W.rseq (k := 8) rfl fun K hK => ?_
    simp only [go_sem, e6, show decide ((row.length : Int) = 0) = false from decide_eq_false hr0, show decide ((60 : Int) < row.length) = false from decide_eq_false h60]
    refine hK _ _ _ ?_
    clear hK K
    refine W.condF (by simp only [go_sem]) ?_
    refine W.skip ?_
    simp only [go_sem]
    have hrl : 0 < row.length := by omega
    have hm0 : (ξ0 : Int).tmod (row.length : Int) = ((ξ0 % row.length : Nat) : Int) := by
      rw [Int.tmod_eq_emod_of_nonneg (by omega)]; rfl
    obtain ⟨κ, hκ⟩ : ∃ κ, κ = ξ0 % row.length := ⟨_, rfl⟩
    have hκl : κ < row.length := by rw [hκ]; exact Nat.mod_lt _ hrl
    rw [← hκ] at hm0
    obtain ⟨sy, hs⟩ := get_some hκl
    refine W.rseq (k := 9) rfl fun K hK => ?_
    simp only [go_sem, a1, e6, i7, hx0, hwx0, hm0, hr0, ne_eq, not_false_eq_true, show i < u.length by omega]
    refine hK _ _ _ ?_
    clear hK K
    refine W.seq ?_
    have nx0 : ∀ (t' : Fr) (h' : Heap) (n' : Nat), n ≤ n' → (t' 1 = .ro (u.map eU8) ∧ t' 2 = .ptr 0 0 0 ∧ t' 5 = .ro (fl.map eU3)) → t' 7 = .int .i64 i → t' 6 = .sl b 0 row.length 2 → h' 0 = some (.cells [eGr g]) → h' b = some (.cells (row.map eSy)) → K t' h' n' := fun t' h' n' q1 q2 q3 q4 q5 q6 =>
      nx row t' h' n' (by omega) i4 i5 q2 q3 q5 (.inr ⟨b, q4, lb1, by omega, q6⟩)
    cases hsn : sy.non
    · refine W.dseq (k := 16) rfl fun K hK => ?_
      simp only [go_sem, e6, hbp, lb3, zb, hs, hsn, lb, show (κ : Int) < (row.length : Int) by omega]
      refine hK _ _ _ _ (by kernel_rfl) ?_
      clear hK K
      refine W.condT (by simp only [go_sem]) ?_
      refine W.exit ?_
      simp only [go_sem]
      exact nx0 _ _ _ (by omega) i6 i7 e6 (by simp only [go_sem, z0, i8]) (by simp only [go_sem, zb, lb3])
    by_cases hleft : ¬ sy.n = p.left
    · refine W.dseq (k := 16) rfl fun K hK => ?_
      simp only [go_sem, e6, hbp, lb3, zb, hs, hsn, lb, show (κ : Int) < (row.length : Int) by omega, show decide (sy.n = p.left) = false from decide_eq_false hleft]
      refine hK _ _ _ _ (by kernel_rfl) ?_
      clear hK K
      refine W.condT (by simp only [go_sem]) ?_
      refine W.exit ?_
      simp only [go_sem]
      exact nx0 _ _ _ (by omega) i6 i7 e6 (by simp only [go_sem, z0, i8]) (by simp only [go_sem, zb, lb3])
    replace hleft := Decidable.of_not_not hleft
    refine W.dseq (k := 16) rfl fun K hK => ?_
    simp only [go_sem, e6, hbp, lb3, zb, hs, hsn, lb, hleft, show (κ : Int) < (row.length : Int) by omega]
    refine hK _ _ _ _ (by kernel_rfl) ?_
    clear hK K
    refine W.condF (by simp only [go_sem]) ?_
    refine W.skip ?_
    simp only [go_sem]
    clear nx0
    have hrow : row = row.take κ ++ ⟨true, p.left⟩ :: row.drop (κ + 1) := by
      have hsy' : sy = ⟨true, p.left⟩ := by rw [← hleft, ← hsn]
      obtain ⟨k1, k2⟩ := List.getElem?_eq_some_iff.1 hs
      rw [← hsy', ← k2, ← List.drop_eq_getElem_cons, List.take_append_drop]
    have hgood : GoodRow g (row.take κ ++ p.right ++ row.drop (κ + 1)) := good_step hr hm (by rw [← hrow]; exact i4)
    have hsyg : SyG g (row.take κ ++ p.right ++ row.drop (κ + 1)) := by
      intro s hs
      rw [List.mem_append, List.mem_append] at hs
      rcases hs with (hs | hs) | hs
      · exact i5 s (List.mem_of_mem_take hs)
      · exact hsy s hs
      · exact i5 s (List.mem_of_mem_drop hs)
    obtain ⟨row2, hrow2⟩ : ∃ row2, row2 = row.take κ ++ p.right ++ row.drop (κ + 1) := ⟨_, rfl⟩
    have hr2l : row2.length = κ + p.right.length + (row.length - (κ + 1)) := by rw [hrow2]; simp; omega
    rw [← hrow2] at hgood hsyg
    refine W.seqk fun K hK => ?_
    have nx1 : ∀ (t' : Fr) (h' : Heap) (n' : Nat), 0 < n' → (t' 1 = .ro (u.map eU8) ∧ t' 2 = .ptr 0 0 0 ∧ t' 5 = .ro (fl.map eU3)) → t' 7 = .int .i64 i → h' 0 = some (.cells [eGr g]) → SlL eSy 2 h' 1 n' (t' 6) row2 → K t' h' n' := by
      intro t' h' n' q1 q2 q3 q4 q5
      refine hK _ _ _ ?_
      clear hK
      refine W.rseq (k := 3) rfl fun K hK => ?_
      have nx17 : ∀ (t' : Fr) (h' : Heap) (n' : Nat), 0 < n' → (t' 1 = .ro (u.map eU8) ∧ t' 2 = .ptr 0 0 0 ∧ t' 5 = .ro (fl.map eU3)) → t' 7 = .int .i64 i → h' 0 = some (.cells [eGr g]) → SlL eSy 2 h' 1 n' (t' 6) row2 → t' 109 = t' 6 → t' 110 = .int .i64 row2.length → t' 111 = .int .i64 0 → K t' h' n' := by
        intro t' h' n' c1 c2 c3 c4 c5 c6 c7 c8
        refine hK _ _ _ ?_
        refine W.block (W.while (fun m t' h' n' => ∃ m1 : Nat, m = row2.length - m1 ∧ m1 ≤ row2.length ∧ 0 < n' ∧ (t' 1 = .ro (u.map eU8) ∧ t' 2 = .ptr 0 0 0 ∧ t' 5 = .ro (fl.map eU3)) ∧ t' 7 = .int .i64 i ∧ h' 0 = some (.cells [eGr g]) ∧ SlL eSy 2 h' 1 n' (t' 6) row2 ∧ t' 109 = t' 6 ∧ t' 110 = .int .i64 row2.length ∧ t' 111 = .int .i64 m1) row2.length
          ⟨0, by simp, by simp, c1, c2, c3, c4, c5, c6, c7, c8⟩ fun m t h n ⟨m1, d1, d2, d3, d4, d5, d6, d7, d8, d9, d10⟩ => ?_)
        refine W.rseq (k := 1) rfl fun K hK => ?_
        simp only [go_sem, d9, d10]
        refine hK _ _ _ ?_
        clear hK K
        refine W.seq ?_
        refine W.cond rfl (fun hc2 => ?_) fun hc2 => ?_
        · refine W.skip ?_
          simp only [go_sem]
          have hm1 : m1 < row2.length := by simp at hc2; omega
          obtain ⟨s1, hs1⟩ := get_some hm1
          have hs1m := hsyg s1 (List.mem_of_getElem? hs1)
          rcases d7 with ⟨e0, _⟩ | ⟨b, f6, lb1, lb2, lb3⟩
          · exfalso; rw [e0] at hm1; simp at hm1
          have f109 : t 109 = .sl b 0 row2.length 2 := d8.trans f6
          have z0 : ∀ j, ¬ 0 = n + j := fun j => by omega
          have zb : ∀ j, ¬ b = n + j := fun j => by omega
          have lb : ∀ j, (b < n + j) = True := fun j => eq_true (by omega)
          have hw1 : IntKind.wrap .i64 ((m1 : Int) + 1) = ((m1 + 1 : Nat) : Int) := wrap64 (by omega) (by omega)
          refine W.seqk fun K hK => ?_
          have nxs : ∀ (t' : Fr) (h' : Heap) (n' : Nat), n ≤ n' → (t' 1 = .ro (u.map eU8) ∧ t' 2 = .ptr 0 0 0 ∧ t' 5 = .ro (fl.map eU3)) → t' 7 = .int .i64 i → h' 0 = some (.cells [eGr g]) → h' b = some (.cells (row2.map eSy)) → t' 6 = .sl b 0 row2.length 2 → t' 109 = .sl b 0 row2.length 2 → t' 110 = .int .i64 row2.length → t' 111 = .int .i64 m1 → K t' h' n' := by
            intro t' h' n' w0 w1 w2 w3 w4 w5 w6 w7 w8
            refine hK _ _ _ ?_
            refine W.region (k := 2) rfl ?_
            simp only [go_sem, w8]
            refine ⟨row2.length - (m1 + 1), by omega, m1 + 1, rfl, by omega, by omega, w1, w2, ?_, .inr ⟨b, w5, lb1, by omega, ?_⟩, ?_, w7, ?_⟩
            · simp only [go_sem, w3]
            · simp only [go_sem, w4]
            · simp only [go_sem, w5, w6]
            · rw [hw1]
          clear hK
          have d4' := d4
          obtain ⟨a1, a2, a5⟩ := d4'
          refine W.block ?_
          refine W.rseq (k := 6) rfl fun K hK => ?_
          simp only [go_sem, f109, d10, lb3, hs1, zb, lb, show (m1 : Int) < (row2.length : Int) by omega]
          refine hK _ _ _ ?_
          clear hK K
          refine W.block ?_
          refine W.rseq (k := 4) rfl fun K hK => ?_
          simp only [go_sem]
          refine hK _ _ _ ?_
          clear hK K
          cases hn1 : s1.non
          · refine W.condT (by simp only [go_sem, hn1]) ?_
            refine W.exit ?_
            simp only [go_sem]
            exact nxs _ _ _ (by omega) d4 d5 (by simp only [go_sem, z0, d6]) (by simp only [go_sem, zb, lb3]) f6 f109 d9 d10
          refine W.condF (by simp only [go_sem, hn1]) ?_
          rw [if_pos hn1] at hs1m
          obtain ⟨ν, hν⟩ : ∃ ν : Nat, s1.n = ν := ⟨s1.n.toNat, by omega⟩
          have hs1e : row2[m1]? = some ⟨true, (ν : Int)⟩ := by rw [hs1, ← hν, ← hn1]
          have hgν := getD_some (sets := fl) (n := ν) (by omega)
          have hlν := getD_lt b2 ν
          by_cases he : m1 + 1 = row2.length
          · have he' : ((m1 + 1 : Nat) : Int) = (row2.length : Int) := by omega
            have hbit := good_end hgood hs1e he
            rw [Int.toNat_natCast, ← hfl] at hbit
            have hbz := bts_zero hbit
            refine W.rseq (k := 6) rfl fun K hK => ?_
            simp only [go_sem, f6, d10, hw1, he', show decide (((m1 + 1 : Nat) : Int) = (row2.length : Int)) = true from decide_eq_true he']
            refine hK _ _ _ ?_
            clear hK K
            refine W.condT (by simp only [go_sem]) ?_
            have h16 : ((fl.getD ν 0 : Nat) : Int).fdiv (2 ^ min 16 32) = ((fl.getD ν 0 / 2 ^ 16 : Nat) : Int) := shr32 (t := 16) (by omega)
            have hand16 := and32 (x := fl.getD ν 0 / 2 ^ 16) (Nat.lt_of_le_of_lt (Nat.div_le_self _ _) hlν)
            refine W.rseq (k := 8) rfl fun K hK => ?_
            simp only [go_sem, a5, hν, hgν, b1, h16, hand16, hbz, show (ν : Int) < (M : Int) by omega]
            refine hK _ _ _ ?_
            clear hK K
            refine W.condF (by simp only [go_sem]) ?_
            refine W.skip ?_
            simp only [go_sem]
            exact nxs _ _ _ (by omega) d4 d5 (by simp only [go_sem, z0, d6]) (by simp only [go_sem, zb, lb3]) f6 f109 d9 d10
          · have hm2 : m1 + 1 < row2.length := by omega
            obtain ⟨s2, hs2⟩ := get_some hm2
            have hs2m := hsyg s2 (List.mem_of_getElem? hs2)
            refine W.rseq (k := 6) rfl fun K hK => ?_
            simp only [go_sem, f6, d10, hw1, show decide (((m1 + 1 : Nat) : Int) = (row2.length : Int)) = false from decide_eq_false (by omega)]
            refine hK _ _ _ ?_
            clear hK K
            refine W.condF (by simp only [go_sem]) ?_
            have fin24 : ∀ (t' : Fr) (h' : Heap) (n' : Nat), True := fun _ _ _ => trivial
            cases hn2 : s2.non
            · obtain ⟨τ, hτ⟩ : ∃ τ : Nat, s2.n = τ := ⟨s2.n.toNat, by omega⟩
              rw [hn2, if_neg (by simp)] at hs2m
              have hs2e : row2[m1 + 1]? = some ⟨false, (τ : Int)⟩ := by rw [hs2, ← hτ, ← hn2]
              have hbit := good_term hgood hs1e hs2e
              rw [Int.toNat_natCast, ← hfl] at hbit
              have hbz := bts_zero hbit
              have hsh := shr32 (x := fl.getD ν 0) (t := τ) (by omega)
              have hand := and32 (x := fl.getD ν 0 / 2 ^ τ) (Nat.lt_of_le_of_lt (Nat.div_le_self _ _) hlν)
              refine W.dseq (k := 24) rfl fun K hK => ?_
              simp only [go_sem, f6, d10, hw1, lb3, zb, lb, hs2, hn2, a5, hν, hτ, hgν, b1, hsh, hand, hbz, show (ν : Int) < (M : Int) by omega, show ((m1 + 1 : Nat) : Int) < (row2.length : Int) by omega]
              refine hK _ _ _ _ (by kernel_rfl) ?_
              clear hK K
              refine W.condF (by simp only [go_sem]) ?_
              refine W.skip ?_
              simp only [go_sem]
              exact nxs _ _ _ (by omega) d4 d5 (by simp only [go_sem, z0, d6]) (by simp only [go_sem, zb, lb3]) f6 f109 d9 d10
            · refine W.dseq (k := 24) rfl fun K hK => ?_
              simp only [go_sem, f6, d10, hw1, lb3, zb, lb, hs2, hn2, show ((m1 + 1 : Nat) : Int) < (row2.length : Int) by omega]
              refine hK _ _ _ _ (by kernel_rfl) ?_
              clear hK K
              refine W.condF (by simp only [go_sem]) ?_
              refine W.skip ?_
              simp only [go_sem]
              exact nxs _ _ _ (by omega) d4 d5 (by simp only [go_sem, z0, d6]) (by simp only [go_sem, zb, lb3]) f6 f109 d9 d10
        · refine W.exit ?_
          simp only [go_sem]
          exact nx row2 _ _ _ (by omega) hgood hsyg d4 d5 (by simp only [go_sem, d6]) (d7.next rfl (fun x hx hx' => by simp only [go_sem]) (by omega) (Nat.le_refl _))
      clear hK
      rcases q5 with ⟨e0, q6⟩ | ⟨b, q6, lb1, lb2, lb3⟩
      · simp only [go_sem, q6]
        exact nx17 _ _ _ (by omega) q2 q3 (by simp only [go_sem, q4]) (.inl ⟨e0, q6⟩) q6.symm (by rw [e0]; rfl) rfl
      · simp only [go_sem, q6]
        exact nx17 _ _ _ (by omega) q2 q3 (by simp only [go_sem, q4]) (.inr ⟨b, q6, lb1, by omega, by simp only [go_sem, lb3]⟩) q6.symm rfl rfl
    clear hK
    obtain ⟨A, hA⟩ : ∃ A, A = (row.map eSy).take κ := ⟨_, rfl⟩
    have hAl : A.length = κ := by rw [hA]; simp; omega
    obtain ⟨C, hC⟩ : ∃ C, C = ((row.map eSy).drop (κ + 1)).take (row.length - (κ + 1)) := ⟨_, rfl⟩
    have hCl : C.length = row.length - (κ + 1) := by rw [hC]; simp
    obtain ⟨E, hE⟩ : ∃ E, E = p.right.map eSy := ⟨_, rfl⟩
    have hEl : E.length = p.right.length := by rw [hE]; simp
    have hE2 : (∀ e ∈ E, e.length = 2) = True := by rw [hE]; exact len_map (e := eSy) (sz := 2) (fun _ => rfl)
    have hAEC : A ++ (E ++ C) = row2.map eSy := by
      rw [hrow2, hA, hE, hC, cut_map, List.map_append, List.map_append, List.map_take, List.append_assoc]
    have hAEl : (A ++ E).length = κ + p.right.length := by rw [List.length_append, hAl, hEl]
    have hwk : IntKind.wrap .i64 ((κ : Int) + 1) = ((κ + 1 : Nat) : Int) := wrap64 (by omega) (by omega)
    refine W.draw (k := 14) rfl ?_
    by_cases hk0 : κ = 0
    · subst hk0
      have hA0 : A = [] := List.eq_nil_of_length_eq_zero hAl
      have hwk0 : IntKind.wrap .i64 ((0 : Int) + 1) = 1 := by decide
      rw [hA0] at hA
      simp only [Nat.zero_add] at hC hCl hr2l
      rw [hA0, List.nil_append] at hAEC
      have hEe : p.right.length ≠ 0 → E.isEmpty = false := fun h => by cases E with | nil => simp at hEl; omega | cons _ _ => rfl
      have hCe : row.length ≠ 1 → C.isEmpty = false := fun h => by cases C with | nil => simp at hCl; omega | cons _ _ => rfl
      by_cases hr0' : p.right.length = 0
      · have hE0 : E = [] := List.eq_nil_of_length_eq_zero (by omega)
        rw [hE0] at hE
        by_cases hlast : row.length = 1
        · have hC0 : C = [] := List.eq_nil_of_length_eq_zero (by omega)
          have hr20 : row2 = [] := List.eq_nil_of_length_eq_zero (by omega)
          simp only [go_sem, e6, a2, i8, hbp, lb3, z0, zb, lb, l0, hwk0, ← hA, ← hC, ← hE, hCl, hEl, hE2, ne_eq, not_false_eq_true, Int.reduceEq, Nat.lt_irrefl, Nat.zero_le, and_false, if_false, Nat.le_add_right, Int.natCast_zero, show (0 : Nat) < 2 by omega, show (0 : Nat) < 16 by omega, show 1 ≤ row.length by omega, show ¬ ((1 : Nat) = 0) by omega, show 1 + (row.length - 1) ≤ row.length by omega, show (row.length - 1) * 16 ≤ 140737488355328 by omega, show p.right.length * 16 ≤ 140737488355328 by omega, show (p.right.length + (row.length - 1)) * 16 ≤ 140737488355328 by omega, show (1 = row.length) = True from eq_true hlast.symm, List.append_nil, List.not_mem_nil, false_implies, implies_true, List.isEmpty_nil]
          refine ⟨by kernel_rfl, ?_⟩
          try simp only [go_sem]
          refine nx1 _ _ _ (by omega) i6 i7 ?_ (.inl ⟨hr20, rfl⟩)
          · simp only [go_sem, z0, i8]
        · simp only [go_sem, e6, a2, i8, hbp, lb3, z0, zb, lb, l0, hwk0, ← hA, ← hC, ← hE, hCl, hEl, hE2, ne_eq, not_false_eq_true, Int.reduceEq, Nat.lt_irrefl, Nat.zero_le, and_false, if_false, Nat.le_add_right, Int.natCast_zero, show (0 : Nat) < 2 by omega, show (0 : Nat) < 16 by omega, show 1 ≤ row.length by omega, show ¬ ((1 : Nat) = 0) by omega, show 1 + (row.length - 1) ≤ row.length by omega, show (row.length - 1) * 16 ≤ 140737488355328 by omega, show p.right.length * 16 ≤ 140737488355328 by omega, show (p.right.length + (row.length - 1)) * 16 ≤ 140737488355328 by omega, hCe hlast, show (1 = row.length) = False from eq_false (fun e => hlast e.symm), List.append_nil, List.not_mem_nil, false_implies, implies_true, List.isEmpty_nil]
          refine ⟨by kernel_rfl, ?_⟩
          try simp only [go_sem]
          refine nx1 _ _ _ (by omega) i6 i7 ?_ (.inr ⟨n + 66, by simp only [go_sem, hr2l, hr0', Nat.zero_add], by omega, by omega, ?_⟩)
          · simp only [go_sem, z0, i8]
          · simp only [go_sem, ← hAEC, hE0, List.nil_append]
      · by_cases hlast : row.length = 1
        · have hC0 : C = [] := List.eq_nil_of_length_eq_zero (by omega)
          simp only [go_sem, e6, a2, i8, hbp, lb3, z0, zb, lb, l0, hwk0, ← hA, ← hC, ← hE, hCl, hEl, hE2, ne_eq, not_false_eq_true, Int.reduceEq, Nat.lt_irrefl, Nat.zero_le, and_false, if_false, Nat.le_add_right, Int.natCast_zero, show (0 : Nat) < 2 by omega, show (0 : Nat) < 16 by omega, show 1 ≤ row.length by omega, show ¬ ((1 : Nat) = 0) by omega, show 1 + (row.length - 1) ≤ row.length by omega, show (row.length - 1) * 16 ≤ 140737488355328 by omega, show p.right.length * 16 ≤ 140737488355328 by omega, show (p.right.length + (row.length - 1)) * 16 ≤ 140737488355328 by omega, hEe hr0', show (1 = row.length) = True from eq_true hlast.symm, List.append_nil, List.not_mem_nil, false_implies, implies_true, List.isEmpty_nil]
          refine ⟨by kernel_rfl, ?_⟩
          try simp only [go_sem]
          refine nx1 _ _ _ (by omega) i6 i7 ?_ (.inr ⟨n + 66, by simp only [go_sem, hr2l, hlast, Nat.sub_self], by omega, by omega, ?_⟩)
          · simp only [go_sem, z0, i8]
          · simp only [go_sem, ← hAEC, hC0, List.append_nil]
        · simp only [go_sem, e6, a2, i8, hbp, lb3, z0, zb, lb, l0, hwk0, ← hA, ← hC, ← hE, hCl, hEl, hE2, ne_eq, not_false_eq_true, Int.reduceEq, Nat.lt_irrefl, Nat.zero_le, and_false, if_false, Nat.le_add_right, Int.natCast_zero, show (0 : Nat) < 2 by omega, show (0 : Nat) < 16 by omega, show 1 ≤ row.length by omega, show ¬ ((1 : Nat) = 0) by omega, show 1 + (row.length - 1) ≤ row.length by omega, show (row.length - 1) * 16 ≤ 140737488355328 by omega, show p.right.length * 16 ≤ 140737488355328 by omega, show (p.right.length + (row.length - 1)) * 16 ≤ 140737488355328 by omega, hEe hr0', show (1 = row.length) = False from eq_false (fun e => hlast e.symm)]
          refine ⟨by kernel_rfl, ?_⟩
          try simp only [go_sem]
          refine nx1 _ _ _ (by omega) i6 i7 ?_ (.inr ⟨n + 66, by simp only [go_sem, hr2l], by omega, by omega, ?_⟩)
          · simp only [go_sem, z0, i8]
          · simp only [go_sem, ← hAEC]
    · have hAe : A.isEmpty = false := by cases A with | nil => simp at hAl; omega | cons _ _ => rfl
      by_cases hlast : κ + 1 = row.length
      · have hC0 : C = [] := List.eq_nil_of_length_eq_zero (by omega)
        simp only [go_sem, e6, a2, i8, hbp, lb3, z0, zb, lb, l0, hwk, ← hA, ← hC, ← hE, hAl, hCl, hEl, hE2, hAEl, ne_eq, not_false_eq_true, Int.reduceEq, Nat.lt_irrefl, Nat.zero_le, and_false, if_false, Nat.le_add_right, show (0 : Nat) < 2 by omega, show (0 : Nat) < 16 by omega, show κ ≤ row.length by omega, show κ + 1 ≤ row.length by omega, show ¬ (κ + 1 = 0) by omega, show κ * 16 ≤ 140737488355328 by omega, show κ + (1 + (row.length - (κ + 1))) ≤ row.length by omega, show (κ + p.right.length) * 16 ≤ 140737488355328 by omega, show (κ + (p.right.length + (row.length - (κ + 1)))) * 16 ≤ 140737488355328 by omega, hAe, show (κ + 1 = row.length) = True from eq_true hlast, List.append_nil, List.not_mem_nil, false_implies, implies_true, List.isEmpty_nil]
        refine ⟨by kernel_rfl, ?_⟩
        try simp only [go_sem]
        refine nx1 _ _ _ (by omega) i6 i7 ?_ (.inr ⟨n + 66, by simp only [go_sem, hr2l, hlast, Nat.sub_self], by omega, by omega, ?_⟩)
        · simp only [go_sem, z0, i8]
        · simp only [go_sem, ← hAEC, hC0, List.append_nil]
      · simp only [go_sem, e6, a2, i8, hbp, lb3, z0, zb, lb, l0, hwk, ← hA, ← hC, ← hE, hAl, hCl, hEl, hE2, hAEl, ne_eq, not_false_eq_true, Int.reduceEq, Nat.lt_irrefl, Nat.zero_le, and_false, if_false, Nat.le_add_right, show (0 : Nat) < 2 by omega, show (0 : Nat) < 16 by omega, show κ ≤ row.length by omega, show κ + 1 ≤ row.length by omega, show ¬ (κ + 1 = 0) by omega, show κ * 16 ≤ 140737488355328 by omega, show κ + (1 + (row.length - (κ + 1))) ≤ row.length by omega, show (κ + p.right.length) * 16 ≤ 140737488355328 by omega, show (κ + (p.right.length + (row.length - (κ + 1)))) * 16 ≤ 140737488355328 by omega, hAe, show (κ + 1 = row.length) = False from eq_false hlast]
        refine ⟨by kernel_rfl, ?_⟩
        try simp only [go_sem]
        refine nx1 _ _ _ (by omega) i6 i7 ?_ (.inr ⟨n + 66, by simp only [go_sem, hr2l], by omega, by omega, ?_⟩)
        · simp only [go_sem, z0, i8]
        · simp only [go_sem, ← hAEC]
  · refine W.exit ?_
    simp only [go_sem]
    refine W.rseq (k := 1) rfl fun K hK => ?_
    simp only [go_sem]
    refine hK _ _ _ ?_
    clear hK K
    refine W.ret ?_
    simp only [go_sem]

end Go.Av

