/-
  Layer 9, package rank: ranks, round by round. Conditions: none.
-/
import Derived.Test.YtiiogleijmcccaaB5
namespace Go.Av
open Go.Proofs
set_option maxRecDepth 100000
set_option linter.unusedSimpArgs false
set_option linter.unusedVariables false

def stepR (rank : Int) (terms : Bool) (s : List Fc × Bool) (x : Pr × Nat) : List Fc × Bool :=
  if rk s.1 x.1.left = 0 ∧ fits x.1 s.1 rank terms = true then (s.1.set x.1.left.toNat (rank, x.2), true) else s

/-- One round. -/
def round (g : Gr) (rank : Int) (terms : Bool) (l : List Fc) : List Fc × Bool := g.prods.zipIdx.foldl (stepR rank terms) (l, false)

theorem stepR_len {rank : Int} {terms : Bool} {s : List Fc × Bool} {x : Pr × Nat} : (stepR rank terms s x).1.length = s.1.length := by
  unfold stepR
  split <;> simp

theorem foldR_len {rank : Int} {terms : Bool} : ∀ (xs : List (Pr × Nat)) (s : List Fc × Bool), (xs.foldl (stepR rank terms) s).1.length = s.1.length
  | [], s => rfl
  | x :: xs, s => by rw [List.foldl_cons, foldR_len xs, stepR_len]

theorem round_len {g : Gr} {rank : Int} {terms : Bool} {l : List Fc} : (round g rank terms l).1.length = l.length := foldR_len _ _

theorem InL.of {p : Pr} {l l' : List Fc} (h : InL p l) (e : l'.length = l.length) : InL p l' := fun s hs hn => by rw [e]; exact h s hs hn

theorem rfs_fc {fr : Bool} {d : Nat} {h : Heap} (f : Fc) : rfs fr (d + 2) h (eFc f) = some (eFc f) := by
  simp [rfs, rf, eFc, List.mapM_cons]

theorem rfe_fc {fr : Bool} {d : Nat} {h : Heap} : ∀ l : List Fc, rfe fr (d + 3) h (l.map eFc) = some (l.map eFc)
  | [] => by simp [rfe]
  | f :: l => by
    have ih := rfe_fc (fr := fr) (d := d) (h := h) l
    unfold rfe at ih ⊢
    rw [List.map_cons, List.mapM_cons, rfs_fc, ih]
    rfl

theorem rfs_nil {fr : Bool} {d : Nat} {h : Heap} : rfs fr (d + 1) h [] = some [] := by simp [rfs]

theorem rfs_cons {fr : Bool} {d : Nat} {h : Heap} {a a' : AV} {l l' : List AV} (ha : rf fr d h a = some a') (hl : rfs fr (d + 1) h l = some l') : rfs fr (d + 1) h (a :: l) = some (a' :: l') := by
  unfold rfs at hl ⊢
  rw [List.mapM_cons, ha, hl]
  rfl

theorem rf_sl {fr : Bool} {d : Nat} {h : Heap} {b len : Nat} {l : List Fc} (hb : h b = some (.cells (l.map eFc))) (hl : len = l.length) : rf fr (d + 4) h (.sl b 0 len 2) = some (.ro (l.map eFc)) := by
  subst hl
  unfold rf
  have e : List.take l.length (List.drop 0 (l.map eFc)) = l.map eFc := by rw [List.drop_zero, List.take_of_length_le (by simp)]
  simp only [hb, e, rfe_fc]
  simp

/-- A grammar whose symbols have places in the list. -/
def Gr.In (g : Gr) (l : List Fc) : Prop := ∀ p ∈ g.prods, (0 ≤ p.left ∧ p.left < l.length) ∧ InL p l

theorem f117 (g : Gr) (hg : g.Small) (rank : Int) (terms : Bool) (l : List Fc) (hl : g.In l) (bg bl bt bs n : Nat) (h : Heap) (d1 : bs ≠ bg) (d2 : bs ≠ bl) (d3 : bs ≠ bt) (b1 : bg < n) (b2 : bl < n) (b3 : bt < n) (b4 : bs < n)
    (m1 : h bg = some (.cells [eGr g])) (m2 : h bl = some (.cells [[.sl bs 0 l.length 2]])) (m3 : h bt = some (.cells [[.bool terms]])) (m4 : h bs = some (.cells (l.map eFc))) :
    FH pg Tq 117 [.int .i64 rank, .ptr bg 0 0, .ptr bl 0 0, .ptr bt 0 0] h n fun r h' n' => r = .bool (round g rank terms l).2 ∧ n ≤ n' ∧ h' bg = some (.cells [eGr g]) ∧ h' bl = some (.cells [[.sl bs 0 l.length 2]]) ∧ h' bt = some (.cells [[.bool terms]]) ∧
      h' bs = some (.cells ((round g rank terms l).1.map eFc)) := by
  have hg1 : g.prods.length < 2 ^ 60 := hg.1
  refine FH.of (N := 40) (rs := #[.tmp 5]) Try.func117 rfl rfl (of_decide_eq_true rfl) rfl (by decide) ?_
  refine W.rseq (k := 1) rfl fun K hK => ?_
  simp only [go_sem]
  refine hK _ _ _ ?_
  clear hK K
  refine W.rseq (k := 1) rfl fun K hK => ?_
  simp only [go_sem]
  refine hK _ _ _ ?_
  clear hK K
  refine W.seq ?_
  refine W.rseq (k := 4) rfl fun K hK => ?_
  simp only [go_sem, m1]
  refine hK _ _ _ ?_
  clear hK K
  refine W.block (W.while (fun m t h' n' => ∃ k : Nat, m = g.prods.length - k ∧ k ≤ g.prods.length ∧ n ≤ n' ∧ t 0 = .int .i64 rank ∧ t 2 = .ptr bl 0 0 ∧ t 3 = .ptr bt 0 0 ∧ t 6 = .bool ((g.prods.zipIdx.take k).foldl (stepR rank terms) (l, false)).2 ∧ t 10 = .ro (g.prods.map ePr) ∧ t 11 = .int .i64 g.prods.length ∧ t 12 = .int .i64 k ∧
      h' bg = some (.cells [eGr g]) ∧ h' bl = some (.cells [[.sl bs 0 l.length 2]]) ∧ h' bt = some (.cells [[.bool terms]]) ∧ h' bs = some (.cells (((g.prods.zipIdx.take k).foldl (stepR rank terms) (l, false)).1.map eFc))) g.prods.length
    ⟨0, by simp, by simp, by omega, rfl, rfl, rfl, rfl, rfl, rfl, rfl, m1, m2, m3, m4⟩ fun m t h' n' ⟨k, i1, i2, i3, i4, i5, i6, i7, i8, i9, i10, i11, i12, i13, i14⟩ => ?_)
  clear m1 m2 m3 m4
  have z1 : ∀ i, ¬ (bg = n' + i) := fun i => by omega
  have z2 : ∀ i, ¬ (bl = n' + i) := fun i => by omega
  have z3 : ∀ i, ¬ (bt = n' + i) := fun i => by omega
  have z4 : ∀ i, ¬ (bs = n' + i) := fun i => by omega
  refine W.rseq (k := 1) rfl fun K hK => ?_
  simp only [go_sem, i9, i10]
  refine hK _ _ _ ?_
  clear hK K
  refine W.seq ?_
  refine W.cond rfl (fun hc => ?_) fun hc => ?_
  · refine W.skip ?_
    simp only [go_sem]
    have hk : k < g.prods.length := by simp at hc; omega
    obtain ⟨p, hp⟩ := get_some hk
    have hm : p ∈ g.prods := List.mem_of_getElem? hp
    obtain ⟨⟨hl0, hl1⟩, hin⟩ := hl p hm
    have hz : g.prods.zipIdx[k]? = some (p, k) := by simp [List.getElem?_zipIdx, hp]
    have hfold : (g.prods.zipIdx.take (k + 1)).foldl (stepR rank terms) (l, false) = stepR rank terms ((g.prods.zipIdx.take k).foldl (stepR rank terms) (l, false)) (p, k) := by
      rw [List.take_add_one, hz, List.foldl_append]; rfl
    have hlen : ((g.prods.zipIdx.take k).foldl (stepR rank terms) (l, false)).1.length = l.length := foldR_len _ _
    generalize hs : (g.prods.zipIdx.take k).foldl (stepR rank terms) (l, false) = s at *
    obtain ⟨b, hb⟩ := fc_get hl0 (show p.left < s.1.length by rw [hlen]; exact hl1)
    refine W.seq (W.block ?_)
    refine W.rseq (k := 6) rfl fun K hK => ?_
    simp only [go_sem, i8, i10, hp]
    refine hK _ _ _ ?_
    clear hK K
    refine W.rseq (k := 14) rfl fun K hK => ?_
    have mid : ∀ t (h' : Heap) n2 c, t 30 = .bool c → c = (decide (rk s.1 p.left = 0) && fits p s.1 rank terms) → n ≤ n2 → t 0 = .int .i64 rank → t 2 = .ptr bl 0 0 → t 3 = .ptr bt 0 0 → t 6 = .bool s.2 → t 7 = .int .i64 k → t 8 = .ptr (n' + 4) 0 0 → t 10 = .ro (g.prods.map ePr) → t 11 = .int .i64 g.prods.length → t 12 = .int .i64 k →
        h' bg = some (.cells [eGr g]) → h' bl = some (.cells [[.sl bs 0 l.length 2]]) → h' bt = some (.cells [[.bool terms]]) → h' bs = some (.cells (s.1.map eFc)) → h' (n' + 4) = some (.cells [ePr p]) → K t h' n2 := by
      intro t h' n2 c e30 hcc hn2 e0 e2 e3 e6 e7 e8 e10 e11 e12 m1 m2 m3 m4 m5
      refine hK _ _ _ ?_
      clear hK K
      refine W.cond (r := c) (by simp only [go_sem, e30]) (fun hc3 => ?_) fun hc3 => ?_
      · refine W.rseq (k := 8) rfl fun K hK => ?_
        simp only [go_sem, e0, e2, e7, e8, m2, m4, m5, hl0, hl1, hb]
        refine hK _ _ _ ?_
        clear hK K
        refine W.region (k := 1) rfl ?_
        simp only [go_sem]
        refine W.region (k := 2) rfl ?_
        simp only [go_sem, e12]
        rw [hc3] at hcc
        have hcc' : rk s.1 p.left = 0 ∧ fits p s.1 rank terms = true := by simpa using hcc.symm
        have hst : stepR rank terms s (p, k) = (s.1.set p.left.toNat (rank, k), true) := by simp [stepR, hcc']
        rw [hst] at hfold
        refine ⟨g.prods.length - (k + 1), by omega, k + 1, rfl, by omega, by omega, e0, e2, e3, ?_, e10, e11, ?_, ?_, ?_, ?_, ?_⟩
        · rw [hfold]
        · rw [wrap64 (by omega) (by omega)]; rfl
        · simp only [go_sem, Ne.symm d1, m1]
        · simp only [go_sem, Ne.symm d2, m2]
        · simp only [go_sem, Ne.symm d3, m3]
        · simp only [go_sem, hfold, List.map_set]
      · refine W.skip ?_
        simp only [go_sem]
        refine W.region (k := 2) rfl ?_
        simp only [go_sem, e12]
        rw [hc3] at hcc
        have hst : stepR rank terms s (p, k) = s := by
          have : ¬ (rk s.1 p.left = 0 ∧ fits p s.1 rank terms = true) := by
            intro h; simp [h] at hcc
          simp only [stepR, this, if_false]
        rw [hst] at hfold
        refine ⟨g.prods.length - (k + 1), by omega, k + 1, rfl, by omega, by omega, e0, e2, e3, ?_, e10, e11, ?_, m1, m2, m3, ?_⟩
        · rw [hfold]; exact e6
        · rw [wrap64 (by omega) (by omega)]; rfl
        · rw [hfold]; exact m4
    clear hK
    simp only [go_sem, i5, i12, z2, z4, hl0, hl1, hb, i14]
    by_cases c1 : rk s.1 p.left = 0
    · simp only [go_sem, c1, i4, i5, i6, i12, i13, z2, z3]
      refine VCall.frzq 8 (rfs_cons rfl (rfs_cons (rf_sl (l := s.1) (by simp only [go_sem, z4, i14]) hlen.symm) (rfs_cons rfl (rfs_cons rfl rfs_nil)))) (f88 p s.1 rank terms (hg.2 p hm) (hin.of hlen)) ?_
      simp only [go_sem]
      exact mid _ _ _ _ rfl (by simp [c1]) (by omega) i4 i5 i6 i7 rfl rfl i8 i9 i10 (by simp only [go_sem, z1, i11]) (by simp only [go_sem, z2, i12]) (by simp only [go_sem, z3, i13]) (by simp only [go_sem, z4, i14]) (by simp only [go_sem])
    · simp only [go_sem, c1]
      exact mid _ _ _ _ rfl (by simp [c1]) (by omega) i4 i5 i6 i7 rfl rfl i8 i9 i10 (by simp only [go_sem, z1, i11]) (by simp only [go_sem, z2, i12]) (by simp only [go_sem, z3, i13]) (by simp only [go_sem, z4, i14]) (by simp only [go_sem])
  · refine W.exit ?_
    simp only [go_sem]
    refine W.rseq (k := 2) rfl fun K hK => ?_
    simp only [go_sem, i7]
    refine hK _ _ _ ?_
    clear hK K
    refine W.ret ?_
    simp only [go_sem]
    have hk : ¬ k < g.prods.length := by simp at hc; omega
    have e : (g.prods.zipIdx.take k).foldl (stepR rank terms) (l, false) = round g rank terms l := by rw [List.take_of_length_le (by simp; omega)]; rfl
    rw [e] at i14 ⊢
    exact ⟨rfl, by omega, i11, i12, i13, i14⟩

end Go.Av

