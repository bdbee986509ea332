/-
  Layer 13, package left: a way back. Conditions: none.
-/
import Derived.Test.YtiiogleijmcccaaU3
namespace Go.Av
open Go.Proofs
set_option maxRecDepth 100000
set_option linter.unusedSimpArgs false
set_option linter.unusedVariables false

theorem Pth.snoc {L : List Lf} {a b : Nat} {l : List Lf} {x : Lf} (h : Pth L a b l) (hx : x ∈ L) (hf : x.frm = b) : Pth L a x.to (l ++ [x]) := Pth.app (b := b) (m := [x]) (show x ∈ L ∧ x.frm = b ∧ x.to = x.to from ⟨hx, hf, rfl⟩) h

theorem StMem.next {g : Gr} {lo : Nat} {h h' : Heap} {n n' : Nat} {lv : AV} {mb : Nat} (s : StMem g lo h n lv mb) (hh : ∀ x, x < n → h' x = h x) (hn : n ≤ n') : StMem g lo h' n' lv mb := by
  obtain ⟨s1, s2, s3, s4, s5, s6⟩ := s
  exact ⟨s1, by omega, by rw [hh mb s2]; exact s3, s4, s5, s6.next rfl (fun x _ hx => hh x hx) hn (Nat.le_refl _)⟩

/-- A way back, or none. -/
def Wb (g : Gr) (non : Nat) (l : List Lf) : Prop := l.length ≤ 101 ∧ ((l = [] ∧ ¬ Cyc g non) ∨ (l ≠ [] ∧ Pth (stepsG g) non non l))

set_option maxHeartbeats 8000000 in
theorem f68 (g : Gr) (hg : g.Small) (hr : right g = true) (non : Nat) (hnon : non < g.nons.toNat) : ∃ l, PF pg Tq 68 [.agg (eGr g), .int .i64 non] (.ro (l.map eLf)) ∧ Wb g non l := by
  obtain ⟨⟨hn1, hn2⟩, _, _, hp60, h5⟩ := right_in hr
  obtain ⟨M, hM⟩ : ∃ M, M = g.nons.toNat := ⟨_, rfl⟩
  have hMn : g.nons = (M : Int) := by omega
  have hd1 : ¬ ((non : Int) < 0) := by omega
  have hd2 : ¬ ((non : Int) ≥ g.nons) := by omega
  have fin : FH pg Tq 68 [.agg (eGr g), .int .i64 non] h0 0 fun r h n => ∃ l, SlL eLf 2 h 0 n r l ∧ Wb g non l := by
    refine FH.of (N := 58) (rs := #[.tmp 4]) Try.func68 rfl rfl (of_decide_eq_true rfl) rfl (by decide) ?_
    refine W.rseq (k := 2) rfl fun K hK => ?_
    simp only [go_sem]
    refine hK _ _ _ ?_
    clear hK K
    refine W.seq ?_
    refine W.rseq (k := 13) rfl fun K hK => ?_
    simp only [go_sem, hr, decide_eq_false hd1, decide_eq_false hd2]
    refine VCall.frz 6 (f87 g hg) rfl ?_
    try simp only [go_sem, hr, decide_eq_false hd1, decide_eq_false hd2]
    refine hK _ _ _ ?_
    clear hK K
    refine W.condF (by simp only [go_sem]) ?_
    refine W.skip ?_
    simp only [go_sem]
    refine W.rseq (k := 7) rfl fun K hK => ?_
    simp only [go_sem]
    refine VCall.heap (f104 g hg hr _ _) fun r h1 n1 ⟨x1, x2, lv, mb, x3, x4⟩ => ?_
    subst x3
    have hg0 : h1 0 = some (.cells [eGr g]) := by rw [x2 0 (by omega)]; simp only [go_sem]
    have hn0 : 0 < n1 := by omega
    have hmb0 : ¬ mb = 0 := by have := x4.1; omega
    clear x1 x2
    simp only [go_sem]
    refine hK _ _ _ ?_
    first | clear hK K | clear hK | skip
    have hmn := x4.2.1
    refine W.rseq (k := 6) rfl fun K hK => ?_
    simp only [go_sem, hg0, hd1]
    refine VCall.heap (f105 g hg hr non hnon _ h1 _ lv mb (x4.next (fun _ _ => rfl) (by omega))) fun r h2 n2 ⟨y1, y2, a, B, y3, y4, y5, y6, y7, y8⟩ => ?_
    subst y5
    have x5 : StMem g _ h2 n2 lv mb := x4.next (fun x hx => y2 x (by omega)) (by omega)
    clear x4
    simp only [go_sem]
    refine hK _ _ _ ?_
    first | clear hK K | clear hK | skip
    refine W.rseq (k := 1) rfl fun K hK => ?_
    simp only [go_sem]
    refine hK _ _ _ ?_
    clear hK K
    refine W.rseq (k := 2) rfl fun K hK => ?_
    simp only [go_sem]
    refine hK _ _ _ ?_
    clear hK K
    have hcl : ∀ l, Pth (stepsG g) non non l → l ≠ [] → ∃ x ∈ stepsG g, x.frm = non ∧ 0 ≤ a.getD x.to (-1) := fun l hl hne => by
      cases l with
      | nil => exact absurd rfl hne
      | cons x l => exact ⟨x, hl.1, hl.2.1, path_aw y3 y4 l x.to hl.2.2⟩
    rw [← hM] at y3
    refine W.block (W.while (fun m t h1 n1 => ∃ (l : List Lf) (cur : Nat), Pth (stepsG g) non cur l ∧ 0 ≤ a.getD cur (-1) ∧ ((l = [] ∧ cur = non ∧ m = M + 1) ∨ (l ≠ [] ∧ cur ≠ non ∧ m = (a.getD cur (-1)).toNat)) ∧ l.length + m ≤ M + 1 ∧ n2 ≤ n1 ∧ (∀ x, x < n2 → h1 x = h2 x) ∧ SlL eLf 2 h1 n2 n1 (t 8) l ∧ (t 1 = .int .i64 non ∧ t 5 = lv ∧ t 6 = .mp mb ∧ t 7 = .sl B 0 g.nons.toNat 1) ∧ t 9 = .int .i64 cur) (M + 1)
      ⟨[], non, rfl, by rw [y3.zero]; exact Int.le_refl 0, .inl ⟨rfl, rfl, rfl⟩, by simp, by omega, fun x hx => rfl, .inl ⟨rfl, rfl⟩, ⟨rfl, rfl, rfl, rfl⟩, rfl⟩ fun m t h1 n1 ⟨l, cur, k1, k2, k3, k4, k5, k6, k7, k8, k9⟩ => ?_)
    have k8' := k8
    obtain ⟨a1, a5, a6, a7⟩ := k8'
    refine W.block ?_
    refine W.rseq (k := 11) rfl fun K hK => ?_
    simp only [go_sem, a5, a6, a7, k9]
    refine VCall.heap (f106 g hr a (by rw [y3.len, hM]) cur B _ h1 _ lv mb (x5.next k6 (by omega)) (by rw [k6 B y7]; exact y8) (by omega)) fun r h3 n3 ⟨z1, z2, x, is, z3, z4⟩ => ?_
    subst z3
    simp only [go_sem]
    refine hK _ _ _ ?_
    first | clear hK K | clear hK | skip
    clear a1 a5 a6 a7
    have hmb2 := x5.2.1
    have hUq := x5.2.2.2.1
    have hmap := x5.2.2.1
    have hal := y3.len
    have hlb : l.length ≤ 100 := by omega
    refine W.seq ?_
    refine W.rseq (k := 2) rfl fun K hK => ?_
    simp only [go_sem]
    refine hK _ _ _ ?_
    clear hK K
    cases hi : is
    · refine W.condT (by simp only [go_sem, hi]) ?_
      refine W.rseq (k := 1) rfl fun K hK => ?_
      simp only [go_sem]
      refine hK _ _ _ ?_
      clear hK K
      refine W.ret ?_
      simp only [go_sem]
      refine ⟨[], .inl ⟨rfl, rfl⟩, by simp, .inl ⟨rfl, fun ⟨l', hne, hl'⟩ => ?_⟩⟩
      rcases k3 with ⟨e1, e2, _⟩ | ⟨e1, e2, _⟩
      · obtain ⟨y, hy, hf, h0⟩ := hcl l' hl' hne
        have := z4.1 hi y hy (by omega)
        omega
      · by_cases hz : a.getD cur (-1) = 0
        · exact e2 (y3.only cur hz)
        · obtain ⟨y, hy, hf, h0, _⟩ := y3.by' cur (by omega)
          have := z4.1 hi y hy hf
          omega
    · refine W.condF (by simp only [go_sem, hi]) ?_
      refine W.skip ?_
      simp only [go_sem]
      obtain ⟨q1, q2, q3, q4⟩ := z4.2 hi
      have hfy := find_yes _ hUq q1
      have hky := key_lf (x := x)
      have el : eLf x = [.int .i64 x.prod, .int .i64 x.dot] := rfl
      rw [el] at hfy hky
      have hxl := aw_lt y3 x.to
      refine W.rseq (k := 5) rfl fun K hK => ?_
      have nx : ∀ (t' : Fr) (h' : Heap) (n' : Nat), n1 + 8 < n' → (∀ x, x < n2 → h' x = h2 x) → SlL eLf 2 h' n2 n' (t' 8) (l ++ [x]) → (t' 1 = .int .i64 non ∧ t' 5 = lv ∧ t' 6 = .mp mb ∧ t' 7 = .sl B 0 g.nons.toNat 1) → t' 10 = .ptr (n1 + 8) 0 0 → h' (n1 + 8) = some (.cells [eLf x]) → K t' h' n' := by
        intro t' h' n' e1 e2 e3 e4 e5 e6
        refine hK _ _ _ ?_
        clear hK K
        have e4' := e4
        obtain ⟨a1, a5, a6, a7⟩ := e4'
        have hm' := e2 mb hmb2
        rw [hmap] at hm'
        refine W.rseq (k := 5) rfl fun K hK => ?_
        simp only [go_sem, a6, e5, e6, hm', hky, hfy]
        refine hK _ _ _ ?_
        clear hK K
        refine W.rseq (k := 3) rfl fun K hK => ?_
        simp only [go_sem, a1]
        refine hK _ _ _ ?_
        clear hK K
        by_cases hb : x.to = non
        · refine W.condT (by simp only [go_sem, show decide ((x.to : Int) = (non : Int)) = true from decide_eq_true (by omega)]) ?_
          refine W.rseq (k := 2) rfl fun K hK => ?_
          simp only [go_sem]
          refine hK _ _ _ ?_
          clear hK K
          refine W.ret ?_
          simp only [go_sem]
          refine ⟨l ++ [x], e3.next rfl (fun x hx hx' => by simp only [go_sem]) (by omega) (by omega), by rw [List.length_append, List.length_singleton]; omega, .inr ⟨by simp, ?_⟩⟩
          have := k1.snoc q1 q2
          rwa [hb] at this
        · refine W.condF (by simp only [go_sem, show decide ((x.to : Int) = (non : Int)) = false from decide_eq_false (by omega)]) ?_
          refine W.skip ?_
          simp only [go_sem]
          refine ⟨(a.getD x.to (-1)).toNat, ?_, l ++ [x], x.to, k1.snoc q1 q2, q3, .inr ⟨by simp, hb, rfl⟩, ?_, by omega, e2, e3.next rfl (fun x hx hx' => by simp only [go_sem]) (by omega) (by omega), e4, rfl⟩
          all_goals rcases k3 with ⟨e1, e2, e3⟩ | ⟨e1, e2, e3⟩
          · omega
          · by_cases hz : a.getD cur (-1) = 0
            · exact absurd (y3.only cur hz) e2
            · obtain ⟨y, hy, hf, h0, hlt⟩ := y3.by' cur (by omega)
              have := q4 y hy hf h0
              omega
          · rw [List.length_append, e1]
            simp only [List.length_nil, List.length_singleton]
            omega
          · by_cases hz : a.getD cur (-1) = 0
            · exact absurd (y3.only cur hz) e2
            · obtain ⟨y, hy, hf, h0, hlt⟩ := y3.by' cur (by omega)
              have := q4 y hy hf h0
              rw [List.length_append, List.length_singleton]
              omega
      clear hK
      rcases k7 with ⟨w0, w5⟩ | ⟨b, w5, w1, w2, w3⟩
      · simp only [go_sem, w5, ne_eq, not_false_eq_true, Int.reduceEq, show (0 : Nat) < 1 by omega, show (0 : Nat) < 2 by omega, show (0 : Nat) < 16 by omega]
        refine nx _ _ _ (by omega) (fun y hy => by simp only [go_sem, show ¬ y = n1 + 8 by omega, show ∀ j, ¬ y = n3 + j from fun j => by omega]; rw [z2 y (by omega)]; exact k6 y hy) (.inr ⟨n3 + 5, by rw [w0]; rfl, by omega, by omega, by rw [w0]; simp only [go_sem]; rfl⟩) k8 rfl (by simp only [go_sem, show ∀ j, ¬ n1 + 8 = n3 + j from fun j => by omega])
      · have zb : ∀ j, ¬ b = n3 + j := fun j => by omega
        have zb8 : ¬ b = n1 + 8 := by omega
        have w4 := z2 b (by omega)
        rw [w3] at w4
        have hLE : (l ++ [x]).map eLf = l.map eLf ++ [[.int .i64 x.prod, .int .i64 x.dot]] := by rw [List.map_append]; rfl
        simp only [go_sem, w5, w4, zb, zb8, Nat.lt_irrefl, and_false, if_false, ne_eq, not_false_eq_true, Int.reduceEq, show (0 : Nat) < 1 by omega, show (0 : Nat) < 2 by omega, show (0 : Nat) < 16 by omega, show (l.length + 1) * 16 ≤ 140737488355328 by omega]
        refine nx _ _ _ (by omega) (fun y hy => by simp only [go_sem, show ¬ y = n1 + 8 by omega, show ∀ j, ¬ y = n3 + j from fun j => by omega, show ¬ y = b by omega]; rw [z2 y (by omega)]; exact k6 y hy) (.inr ⟨n3 + 5, by rw [List.length_append]; rfl, by omega, by omega, by rw [hLE]; simp only [go_sem]⟩) k8 rfl (by simp only [go_sem, show ∀ j, ¬ n1 + 8 = n3 + j from fun j => by omega, show ¬ n1 + 8 = b by omega])
  obtain ⟨r, h', n', hb, l, ho, hw⟩ := fin
  exact ⟨l, ⟨_, h', n', hb, 5, fun fr => ho.frz (d := 3) fun x _ => by simp [rfs, rf, eLf]⟩, hw⟩

end Go.Av

