/-
  Layer 15, package tree: Replay, Nodes. Conditions: none.
-/
import Derived.Test.YtiiogleijmcccaaT6
namespace Go.Av
open Go.Proofs
set_option maxRecDepth 100000
set_option linter.unusedSimpArgs false
set_option linter.unusedVariables false

def eNd (x : Nd) : List AV := [.int .i64 x.1, .ro (x.2.map eIn)]
attribute [go_sem] eNd

theorem SlC.frz {α : Type} {e : α → List AV} {sz c : Nat} {co : Co} {fr : Bool} {h : Heap} {n d : Nat} {v : AV} {l : List α} (s : SlC e sz c co h n v l) (he : ∀ x ∈ l, rfs fr d h (e x) = some (e x)) : rf fr (d + 2) h v = some (.ro (l.map e)) := by
  rcases s with ⟨rfl, rfl⟩ | ⟨b, rfl, _, _, s⟩
  · simp [rf]
  · exact rf_sla s (by simp) (rfe_map he)

theorem Mac.wordF {bR : Nat} {g : Gr} {co : Co} {h : Heap} {n : Nat} {r : Rs} {tv wv nv : AV} {av : Nat → AV} (m : Mac bR g co h n r tv wv nv av) (fr : Bool) (d : Nat) : rf fr (d + 4) h wv = some (.ro (r.word.map eIn)) :=
  m.word.frz (d := d + 2) fun x _ => by simp [rfs, rf, eIn]

theorem zipIdx_fst {α β : Type} {f : α → β} : ∀ (l : List α) (k : Nat), (l.zipIdx k).map (fun x => f x.1) = l.map f
  | [], k => rfl
  | a :: l, k => by rw [List.zipIdx_cons, List.map_cons, List.map_cons, zipIdx_fst l]

theorem Mac.nodesF {bR : Nat} {g : Gr} {co : Co} {h : Heap} {n : Nat} {r : Rs} {tv wv nv : AV} {av : Nat → AV} (m : Mac bR g co h n r tv wv nv av) (fr : Bool) (d : Nat) : rf fr (d + 8) h nv = some (.ro (r.nodes.map eNd)) := by
  rcases m.nodes with ⟨e, rfl⟩ | ⟨b, rfl, _, _, k⟩
  · rw [e]; simp [rf]
  · refine rf_sla k (by rw [rowN_len]) ?_
    have := rfe_map (fr := fr) (d := d + 6) (h := h) (g := fun x : Nd × Nat => [.int .i64 x.1.1, av x.2]) (r := fun x => eNd x.1) (l := r.nodes.zipIdx) fun x hx => ?_
    · unfold rowN
      rw [this, zipIdx_fst]
    · obtain ⟨y, i⟩ := x
      have hy := List.mem_zipIdx_iff_getElem?.1 hx
      have hs := m.ats i y hy
      refine rfs_cons rfl (rfs_cons ?_ rfs_nil)
      exact hs.frz (d := d + 3) fun x _ => by simp [rfs, rf, eIn]

theorem rf_tup2 {fr : Bool} {d : Nat} {h : Heap} {v v' : AV} {k : IntKind} {n : Int} (hv : rf fr d h v = some v') (hd : 0 < d) : rf fr (d + 2) h (.tup [v, .int k n]) = some (.tup [v', .int k n]) := by
  obtain ⟨d, rfl⟩ : ∃ e, d = e + 1 := ⟨d - 1, by omega⟩
  have h1 : rfs fr (d + 2) h [v, .int k n] = some [v', .int k n] := rfs_cons hv (rfs_cons rfl rfs_nil)
  rw [rf, h1]

theorem f55 (g : Gr) (hg : g.Small) (l : List Int) (hl : l.length < 2 ^ 60) : PF pg Tq 55 [.agg (eGr g), .ro (l.map eIn)] (.tup [.ro ((replayL g l).2.map eIn), .int .i64 (replayL g l).1]) := by
  obtain ⟨s1, s2⟩ := replay_same g l
  have fin : FH pg Tq 55 [.agg (eGr g), .ro (l.map eIn)] h0 0 fun r h n => ∃ v, r = .tup [v, .int .i64 (replayL g l).1] ∧ ∀ fr, rf fr 4 h v = some (.ro ((replayL g l).2.map eIn)) := by
    refine FH.of (N := 21) (rs := #[.tmp 4, .tmp 5]) Try.func55 rfl rfl (of_decide_eq_true rfl) rfl (by decide) ?_
    refine W.rseq (k := 3) rfl fun K hK => ?_
    simp only [go_sem]
    refine hK _ _ _ ?_
    clear hK K
    refine W.rseq (k := 8) rfl fun K hK => ?_
    simp only [go_sem]
    refine VCall.heap (f97 g hg l hl _ _) fun res h1 n1 ⟨p, hres, hm⟩ => ?_
    subst hres
    simp only [go_sem]
    refine hK _ _ _ ?_
    first | clear hK K | clear hK | skip
    rw [s1] at hm
    refine W.seq ?_
    refine W.rseq (k := 2) rfl fun K hK => ?_
    simp only [go_sem, s1]
    refine hK _ _ _ ?_
    clear hK K
    by_cases he : (replayL g l).1 = 0
    · obtain ⟨bR, co, tv, wv, nv, av, rfl, m⟩ := hm he
      have m3 := m.root.2.2
      have zR : ∀ j, ¬ bR = n1 + j := fun j => by have := m.root.1; omega
      refine W.condF (by simp only [go_sem, he]) ?_
      refine W.skip ?_
      simp only [go_sem]
      refine W.rseq (k := 6) rfl fun K hK => ?_
      simp only [go_sem, m3, zR]
      refine hK _ _ _ ?_
      clear hK K
      refine W.ret ?_
      simp only [go_sem]
      refine ⟨_, by rw [he], fun fr => ?_⟩
      rw [s2, if_pos (s1.trans he)]
      exact (m.next (n' := n1 + 8) (co' := co) (by omega) (CoExt.rfl' _ _) fun x hx hx2 => by simp only [go_sem]).wordF fr 0
    · refine W.condT (by simp only [go_sem, show decide ((replayL g l).1 = 0) = false from decide_eq_false he]) ?_
      refine W.rseq (k := 3) rfl fun K hK => ?_
      simp only [go_sem]
      refine hK _ _ _ ?_
      clear hK K
      refine W.ret ?_
      simp only [go_sem]
      refine ⟨.nils, rfl, fun fr => ?_⟩
      rw [s2, if_neg (by rw [s1]; exact he)]
      simp [rf]
  obtain ⟨r, h', n', hb, v, rfl, hv⟩ := fin
  exact ⟨_, h', n', hb, 6, fun fr => rf_tup2 (hv fr) (by omega)⟩

theorem f57 (g : Gr) (hg : g.Small) (l : List Int) (hl : l.length < 2 ^ 60) : PF pg Tq 57 [.agg (eGr g), .ro (l.map eIn)] (.tup [.ro ((nodesL g l).map eNd), .int .i64 (replayL g l).1]) := by
  obtain ⟨s1, s2⟩ := replay_same g l
  have fin : FH pg Tq 57 [.agg (eGr g), .ro (l.map eIn)] h0 0 fun r h n => ∃ v, r = .tup [v, .int .i64 (replayL g l).1] ∧ ∀ fr, rf fr 8 h v = some (.ro ((nodesL g l).map eNd)) := by
    refine FH.of (N := 21) (rs := #[.tmp 4, .tmp 5]) Try.func57 rfl rfl (of_decide_eq_true rfl) rfl (by decide) ?_
    refine W.rseq (k := 3) rfl fun K hK => ?_
    simp only [go_sem]
    refine hK _ _ _ ?_
    clear hK K
    refine W.rseq (k := 8) rfl fun K hK => ?_
    simp only [go_sem]
    refine VCall.heap (f97 g hg l hl _ _) fun res h1 n1 ⟨p, hres, hm⟩ => ?_
    subst hres
    simp only [go_sem]
    refine hK _ _ _ ?_
    first | clear hK K | clear hK | skip
    rw [s1] at hm
    refine W.seq ?_
    refine W.rseq (k := 2) rfl fun K hK => ?_
    simp only [go_sem, s1]
    refine hK _ _ _ ?_
    clear hK K
    by_cases he : (replayL g l).1 = 0
    · obtain ⟨bR, co, tv, wv, nv, av, rfl, m⟩ := hm he
      have m3 := m.root.2.2
      have zR : ∀ j, ¬ bR = n1 + j := fun j => by have := m.root.1; omega
      refine W.condF (by simp only [go_sem, he]) ?_
      refine W.skip ?_
      simp only [go_sem]
      refine W.rseq (k := 6) rfl fun K hK => ?_
      simp only [go_sem, m3, zR]
      refine hK _ _ _ ?_
      clear hK K
      refine W.ret ?_
      simp only [go_sem]
      refine ⟨_, by rw [he], fun fr => ?_⟩
      rw [nodesL, if_pos (s1.trans he)]
      exact (m.next (n' := n1 + 8) (co' := co) (by omega) (CoExt.rfl' _ _) fun x hx hx2 => by simp only [go_sem]).nodesF fr 0
    · refine W.condT (by simp only [go_sem, show decide ((replayL g l).1 = 0) = false from decide_eq_false he]) ?_
      refine W.rseq (k := 3) rfl fun K hK => ?_
      simp only [go_sem]
      refine hK _ _ _ ?_
      clear hK K
      refine W.ret ?_
      simp only [go_sem]
      refine ⟨.nils, rfl, fun fr => ?_⟩
      rw [nodesL, if_neg (by rw [s1]; exact he)]
      simp [rf]
  obtain ⟨r, h', n', hb, v, rfl, hv⟩ := fin
  exact ⟨_, h', n', hb, 10, fun fr => rf_tup2 (hv fr) (by omega)⟩

end Go.Av

