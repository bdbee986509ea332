/-
  Layer 15's statement TreeTells: the walk. Conditions: none.
-/
import Derived.Test.YtiiogleijmcccaaT12
import Derived.Test.YtiiogleijmcccaaT11
namespace Go.Av
open Go.Proofs
set_option maxRecDepth 100000
set_option linter.unusedSimpArgs false
set_option linter.unusedVariables false

theorem strip_len : ∀ {r : List Sy} {w : List Int} {r' : List Sy} {w' : List Int}, strip r w = (r', w') → r'.length + w'.length = r.length + w.length
  | [], w, r', w', h => by cases h; rfl
  | s :: r, w, r', w', h => by
    rw [strip] at h
    split at h
    · cases h; rfl
    · have := strip_len h
      simp at this ⊢; omega

theorem rep_len {g : Gr} (h8 : ∀ p ∈ g.prods, p.right.length ≤ 8) : ∀ (l : List Int) (r : List Sy) (w W : List Int), repF g l r w = (0, W) → W.length ≤ w.length + r.length + 8 * l.length
  | [], r, w, W, h => by
    rw [repF] at h
    rcases hs : strip r w with ⟨r', w'⟩
    rw [hs] at h
    have := strip_len hs
    cases r' with
    | cons s r' => simp at h
    | nil =>
      simp only [Prod.mk.injEq, true_and] at h
      subst h
      simp at this ⊢; omega
  | x :: l, r, w, W, h => by
    rw [repF] at h
    rcases hs : strip r w with ⟨r', w'⟩
    rw [hs] at h
    have h1 := strip_len hs
    cases r' with
    | nil => simp at h
    | cons s r' =>
      simp only at h
      cases hp : okP g x s.n with
      | none => simp [hp] at h
      | some p =>
        rw [hp] at h
        simp only at h
        have h2 := rep_len h8 l _ _ _ h
        have h3 := h8 p (List.mem_of_getElem? (okP_some hp).2.1)
        simp at h1 h2 ⊢; omega

theorem bld_small {g : Gr} {l : List Int} (h8 : ∀ p ∈ g.prods, p.right.length ≤ 8) {syms : List Sy} {i at' : Nat} {pl : List Int} {ns : List Nd} {i' at2 : Nat} (h : Bld g l syms i at' pl ns i' at2) : ∀ x ∈ ns, x.2.length ≤ 9 := by
  induction h with
  | nil => simp
  | term h ih => exact ih
  | non hj hp h1 h2 ih1 ih2 =>
    have hb := (bld_at h8 h1).2.2.2.1
    have := h8 _ (List.mem_of_getElem? (okP_some hp).2.1)
    intro x hx
    simp only [List.cons_append, List.mem_cons, List.mem_append] at hx
    rcases hx with rfl | hx | hx
    · simp; omega
    · exact ih1 x hx
    · exact ih2 x hx

theorem right_8 {g : Gr} (hr : right g = true) : ∀ p ∈ g.prods, p.right.length ≤ 8 := fun p hp => ((right_in hr).2.2.2.2 p hp).2.1

theorem replay_wlen {g : Gr} {l : List Int} : (replayL g l).2.length < 2 ^ 30 := by
  by_cases h : (replayL g l).1 = 0
  · obtain ⟨hr, h1, h2⟩ := replay_ok h
    have := rep_len (right_8 hr) _ _ _ _ h2
    simp at this; omega
  · rw [replay_err h]; simp

theorem nodes_in {g : Gr} {l : List Int} : ndIn (nodesL g l) := by
  by_cases h : (replayL g l).1 = 0
  · obtain ⟨hr, h1, h2⟩ := replay_ok h
    obtain ⟨ns, at2, hb, e⟩ := replay_bld h
    have h3 := bld_at (right_8 hr) hb
    rw [e]
    exact ⟨by omega, fun x hx => by have := bld_small (right_8 hr) hb x hx; omega⟩
  · rw [nodesL, if_neg (by rw [(replay_same g l).1]; exact h)]
    exact ⟨by simp, by simp⟩

theorem NdS.nodesF {co : Co} {h : Heap} {n : Nat} {nodes : List Nd} {nv : AV} {av : Nat → AV} (m : NdS co h n nodes nv av) (fr : Bool) (d : Nat) : rf fr (d + 8) h nv = some (.ro (nodes.map eNd)) := by
  rcases m.row with ⟨e, rfl⟩ | ⟨b, rfl, _, _, k⟩
  · rw [e]; simp [rf]
  · refine rf_sla k (by rw [rowN_len]) ?_
    have := rfe_map (fr := fr) (d := d + 6) (h := h) (g := fun x : Nd × Nat => [.int .i64 x.1.1, av x.2]) (r := fun x => eNd x.1) (l := nodes.zipIdx) fun x hx => ?_
    · unfold rowN
      rw [this, zipIdx_fst]
    · obtain ⟨y, i⟩ := x
      have hy := List.mem_zipIdx_iff_getElem?.1 hx
      have hs := m.ats i y hy
      refine rfs_cons rfl (rfs_cons ?_ rfs_nil)
      exact hs.frz (d := d + 3) fun x _ => by simp [rfs, rf, eIn]

theorem f58 (g : Gr) (hg : g.Small) (l : List Int) (hl : l.length < 2 ^ 60) : PF pg Tq 58 [.agg (eGr g), .ro (l.map eIn)] (.tup [.ro ((nodesL g l).map eNd), .int .i64 (replayL g l).1]) := by
  have fin : FH pg Tq 58 [.agg (eGr g), .ro (l.map eIn)] h0 0 fun r h n => ∃ v, r = .tup [v, .int .i64 (replayL g l).1] ∧ ∀ fr, rf fr 8 h v = some (.ro ((nodesL g l).map eNd)) := by
    refine FH.of (N := 28) (rs := #[.tmp 4, .tmp 5]) Try.func58 rfl rfl (of_decide_eq_true rfl) rfl (by decide) ?_
    refine W.rseq (k := 3) rfl fun K hK => ?_
    simp only [go_sem]
    refine hK _ _ _ ?_
    clear hK K
    refine W.rseq (k := 8) rfl fun K hK => ?_
    simp only [go_sem]
    refine VCall.frz 6 (f56 g hg l hl) rfl ?_
    try simp only [go_sem]
    refine hK _ _ _ ?_
    clear hK K
    refine W.seq ?_
    by_cases he : (replayL g l).1 = 0
    · obtain ⟨hr, h1, h2⟩ := replay_ok he
      obtain ⟨ns, at2, hb, e⟩ := replay_bld he
      obtain ⟨b1, b2, b3, _⟩ := bld_at (right_8 hr) hb
      simp only [List.length_cons, List.length_nil] at b2
      rw [e]
      cases hb with
      | @non _ _ _ _ j p plx nsx i1 at1 _ nsy _ _ hj hp hB1 hB2 =>
        cases hB2
        obtain ⟨hj0, hpg, _⟩ := okP_some hp
        have hns : (((j, plx ++ [(at2 : Int)]) :: nsx) ++ ([] : List Nd)).length = nsx.length + 1 := by simp
        rw [hns] at b2 b3
        rw [List.append_nil]
        refine W.rseq (k := 2) rfl fun K hK => ?_
        simp only [go_sem, he]
        refine hK _ _ _ ?_
        clear hK K
        refine W.condF (by simp only [go_sem]) ?_
        refine W.skip ?_
        simp only [go_sem]
        refine W.rseq (k := 10) rfl fun K hK => ?_
        simp only [go_sem]
        refine VCall.heap (f98 g hg (right_8 hr) l (by omega) (nsx.length + 1) 0 0 j p plx nsx l.length at2 [] .nils (fun _ => .nils) (fun _ => none) _ _ (by omega) hj hj0 hpg hB1 (by omega) (by simp; omega) ⟨.inl ⟨rfl, rfl⟩, fun i x h => by simp at h⟩) fun res h' n' ⟨nv, av, co', hres, d1, d2, d3, d4⟩ => ?_
        subst hres
        simp only [go_sem]
        refine hK _ _ _ ?_
        first | clear hK K | clear hK | skip
        refine W.rseq (k := 3) rfl fun K hK => ?_
        simp only [go_sem]
        refine hK _ _ _ ?_
        clear hK K
        refine W.ret ?_
        simp only [go_sem]
        exact ⟨nv, by rw [he], fun fr => d4.nodesF fr 0⟩
    · refine W.rseq (k := 2) rfl fun K hK => ?_
      simp only [go_sem, show decide ((replayL g l).1 = 0) = false from decide_eq_false he]
      refine hK _ _ _ ?_
      clear hK K
      refine W.condT (by simp only [go_sem]) ?_
      refine W.rseq (k := 3) rfl fun K hK => ?_
      simp only [go_sem]
      refine hK _ _ _ ?_
      clear hK K
      refine W.ret ?_
      simp only [go_sem]
      refine ⟨.nils, rfl, fun fr => ?_⟩
      rw [nodesL, if_neg (by rw [(replay_same g l).1]; exact he)]
      simp [rf]
  obtain ⟨r, h', n', hb, v, rfl, hv⟩ := fin
  exact ⟨_, h', n', hb, 10, fun fr => rf_tup2 (hv fr) (by omega)⟩

set_option maxHeartbeats 4000000 in
theorem f15 (g : Gr) (hg : g.Small) (l : List Int) (hl : l.length < 2 ^ 60) (m : List Int) (hm : m.length < 2 ^ 60) : FH pg Tq 15 [.agg (eGr g), .ro (l.map eIn), .ro (m.map eIn)] h0 0 fun r _ _ => r = .bool true := by
  have hw := replay_wlen (g := g) (l := l)
  have hn := nodes_in (g := g) (l := l)
  refine FH.of (N := 91) (rs := #[.tmp 6]) Try.func15 rfl rfl (of_decide_eq_true rfl) rfl (by decide) ?_
  refine W.rseq (k := 2) rfl fun K hK => ?_
  simp only [go_sem]
  refine hK _ _ _ ?_
  clear hK K
  refine W.seq ?_
  refine W.rseq (k := 2) rfl fun K hK => ?_
  simp only [go_sem]
  refine VCall.frz 6 f54 rfl ?_
  try simp only [go_sem]
  refine hK _ _ _ ?_
  clear hK K
  refine W.condF (by simp only [go_sem]) ?_
  refine W.skip ?_
  simp only [go_sem]
  refine W.seq ?_
  refine W.rseq (k := 22) rfl fun K hK => ?_
  have nx : ∀ (t' : Fr) (n' : Nat) (b : Bool), t' 38 = .bool b → t' 1 = .ro (l.map eIn) → t' 2 = .ro (m.map eIn) → t' 3 = .ptr 0 0 0 → 0 < n' → K t' (upd h0 0 (some (.cells [[.int .i64 g.terms, .int .i64 g.nons, .int .i64 g.start, .ro (g.prods.map ePr)]]))) n' := by
    intro t n b c1 c2 c3 c4 c5
    refine hK _ _ _ ?_
    clear hK
    cases b
    · refine W.condF (by simp only [go_sem, c1]) ?_
      refine W.skip ?_
      simp only [go_sem]
      refine W.rseq (k := 8) rfl fun K hK => ?_
      simp only [go_sem, c2, c4, c5]
      refine VCall.frz 6 (f55 g hg l hl) rfl ?_
      try simp only [go_sem, c2, c4, c5]
      refine hK _ _ _ ?_
      clear hK K
      refine W.rseq (k := 8) rfl fun K hK => ?_
      simp only [go_sem, c2, c4, c5]
      refine VCall.frz 6 (f56 g hg l hl) rfl ?_
      try simp only [go_sem, c2, c4, c5]
      refine hK _ _ _ ?_
      clear hK K
      refine W.rseq (k := 8) rfl fun K hK => ?_
      simp only [go_sem, c2, c4, c5]
      refine VCall.frz 6 (f57 g hg l hl) rfl ?_
      try simp only [go_sem, c2, c4, c5]
      refine hK _ _ _ ?_
      clear hK K
      refine W.rseq (k := 8) rfl fun K hK => ?_
      simp only [go_sem, c2, c4, c5]
      refine VCall.frz 6 (f58 g hg l hl) rfl ?_
      try simp only [go_sem, c2, c4, c5]
      refine hK _ _ _ ?_
      clear hK K
      refine W.rseq (k := 29) rfl fun K hK => ?_
      simp only [go_sem]
      refine VCall.frz 6 (f59 (replayL g l).2 (replayL g l).2 (by omega) (by omega)) rfl ?_
      simp only [go_sem, beq_self_eq_true]
      refine VCall.frzt 6 (f61 (nodesL g l) hn.1) rfl ?_
      simp only [go_sem, beq_self_eq_true]
      refine VCall.frz 6 (f60 (nodesL g l) (nodesL g l) hn hn) rfl ?_
      simp only [go_sem, beq_self_eq_true, c2, c3]
      refine VCall.frz 6 (f62 l m hl hm) rfl ?_
      simp only [go_sem, beq_self_eq_true, c2, c3]
      refine VCall.frz 6 (f63 l m hl hm) rfl ?_
      simp only [go_sem, beq_self_eq_true]
      refine hK _ _ _ ?_
      first | clear hK K | clear hK | skip
      refine W.ret ?_
      simp only [go_sem]
    · refine W.condT (by simp only [go_sem, c1]) ?_
      refine W.rseq (k := 1) rfl fun K hK => ?_
      simp only [go_sem]
      refine hK _ _ _ ?_
      clear hK K
      refine W.ret ?_
      simp only [go_sem]
  clear hK
  simp only [go_sem]
  refine VCall.frz 6 (f28 g hg) rfl ?_
  rcases Bool.eq_false_or_eq_true (large g) with hL | hL
  · simp only [go_sem, hL]
    exact nx _ _ _ rfl rfl rfl rfl (by omega)
  simp only [hL]
  by_cases h1 : (200 : Int) < l.length
  · by_cases h2 : (l.length : Int) ≤ 2000
    · simp only [go_sem, show decide ((l.length : Int) > 200) = true from decide_eq_true h1, show decide ((l.length : Int) ≤ 2000) = true from decide_eq_true h2]
      exact nx _ _ _ rfl rfl rfl rfl (by omega)
    · by_cases h3 : (2010 : Int) < l.length
      · simp only [go_sem, show decide ((l.length : Int) > 200) = true from decide_eq_true h1, show decide ((l.length : Int) ≤ 2000) = false from decide_eq_false h2, show decide ((l.length : Int) > 2010) = true from decide_eq_true h3]
        exact nx _ _ _ rfl rfl rfl rfl (by omega)
      · simp only [go_sem, show decide ((l.length : Int) > 200) = true from decide_eq_true h1, show decide ((l.length : Int) ≤ 2000) = false from decide_eq_false h2, show decide ((l.length : Int) > 2010) = false from decide_eq_false h3]
        exact nx _ _ _ rfl rfl rfl rfl (by omega)
  · simp only [go_sem, show decide ((l.length : Int) > 200) = false from decide_eq_false h1, show decide ((l.length : Int) > 2010) = false from decide_eq_false (by omega)]
    exact nx _ _ _ rfl rfl rfl rfl (by omega)

end Go.Av

