/-
  Layer 11, package first: First. Conditions: none.
-/
import Derived.Test.YtiiogleijmcccaaF2
import Derived.Test.YtiiogleijmcccaaSS
import Derived.Test.YtiiogleijmcccaaC11
namespace Go.Av
open Go.Proofs
set_option maxRecDepth 100000
set_option linter.unusedSimpArgs false
set_option linter.unusedVariables false

theorem rfe_u3 {fr : Bool} {d : Nat} {h : Heap} {l : List Nat} : rfe fr (d + 3) h (l.map eU3) = some (l.map eU3) := rfe_map fun x _ => by simp [rfs, rf, eU3]

theorem rf_u3 {fr : Bool} {d : Nat} {h : Heap} {b : Nat} {l : List Nat} (hb : h b = some (.cells (l.map eU3))) : rf fr (d + 4) h (.sl b 0 l.length 1) = some (.ro (l.map eU3)) := rf_sla hb (by simp) rfe_u3

/-- Numbers in a block of their own, or none. -/
def OwnU3 (l : List Nat) (r : AV) (h : Heap) : Prop := (l = [] ∧ (r = .nils ∨ r = .ro [])) ∨ ∃ b, r = .sl b 0 l.length 1 ∧ h b = some (.cells (l.map eU3))

theorem OwnU3.pf {f : FuncId} {args : List AV} {l : List Nat} (h : FH pg Tq f args h0 0 fun r h _ => OwnU3 l r h) : PF pg Tq f args (.ro (l.map eU3)) := by
  obtain ⟨r, h', n', hb, ho⟩ := h
  refine ⟨r, h', n', hb, 4, fun fr => ?_⟩
  rcases ho with ⟨rfl, rfl | rfl⟩ | ⟨b, rfl, hh⟩
  · simp [rf]
  · simp [rf]
  · exact rf_u3 hh

theorem f95 (p : Pr) (hp : p.right.length < 2 ^ 60) (sets : List Nat) (null : List Fc) (hs : Lt32 sets) (hn : null.length = sets.length) (h0l : 0 ≤ p.left) (h1l : p.left < sets.length) (hd : SyIn sets.length p.right) (bs B bn n : Nat) (h : Heap) (d1 : B ≠ bs) (d2 : B ≠ bn) (b1 : bs < n) (b2 : B < n) (b3 : bn < n)
    (m1 : h bs = some (.cells [[.sl B 0 sets.length 1]])) (m2 : h B = some (.cells (sets.map eU3))) (m3 : h bn = some (.cells [[.ro (null.map eFc)]])) :
    FH pg Tq 95 [.agg (ePr p), .ptr bs 0 0, .ptr bn 0 0] h n fun r h' n' => r = .bool (!decide (addF null sets p = sets.getD p.left.toNat 0)) ∧ n ≤ n' ∧ h' B = some (.cells ((sets.set p.left.toNat (addF null sets p)).map eU3)) ∧ ∀ x, x < n → x ≠ B → h' x = h x := by
  obtain ⟨ν, hν⟩ : ∃ ν : Nat, p.left = ν := ⟨p.left.toNat, by omega⟩
  have hνM : ν < sets.length := by omega
  have hνt : p.left.toNat = ν := by omega
  have hgs : sets[ν]? = some (sets.getD ν 0) := by simp [hνM]
  have hlt := getD_lt hs ν
  have hrl := rowW_lt (null := null) hs p.right 0 (by decide) hd
  have hadd : addF null sets p = sets.getD ν 0 ||| (rowW sets null 0 p.right).1 := by rw [addF, hνt]
  rw [hνt]
  have z1 : ∀ i, ¬ (bs = n + i) := fun i => by omega
  have z2 : ∀ i, ¬ (B = n + i) := fun i => by omega
  have z3 : ∀ i, ¬ (bn = n + i) := fun i => by omega
  have z1' : ¬ bs = n := by omega
  have z2' : ¬ B = n := by omega
  have z3' : ¬ bn = n := by omega
  refine FH.of (N := 36) (rs := #[.tmp 4]) Try.func95 rfl rfl (of_decide_eq_true rfl) rfl (by decide) ?_
  refine W.rseq (k := 2) rfl fun K hK => ?_
  simp only [go_sem]
  refine hK _ _ _ ?_
  clear hK K
  refine W.rseq (k := 10) rfl fun K hK => ?_
  simp only [go_sem, z1, z2, z3, z1', z2', z3', m1, m2, m3]
  refine VCall.frzq 20 (rfs_cons rfl (rfs_cons (rf_u3 (by simp only [go_sem, z2, z2', m2])) (rfs_cons rfl rfs_nil))) (f94 p.right sets null hp hs hn hd) ?_
  simp only [go_sem]
  refine hK _ _ _ ?_
  clear hK K
  refine W.rseq (k := 6) rfl fun K hK => ?_
  simp only [go_sem, z1, z2, z3, z1', z2', z3', m1, m2, hν, hgs, show (ν : Int) < (sets.length : Int) by omega]
  refine hK _ _ _ ?_
  clear hK K
  refine W.rseq (k := 9) rfl fun K hK => ?_
  simp only [go_sem, z1, z2, z3, z1', z2', z3', m1, m2, hν, hgs, hνM, show (ν : Int) < (sets.length : Int) by omega, or32 hlt hrl]
  refine hK _ _ _ ?_
  clear hK K
  refine W.rseq (k := 8) rfl fun K hK => ?_
  simp only [go_sem, z1, z2, z3, z1', z2', z3', m1, m2, hν, hgs, hνM, show (ν : Int) < (sets.length : Int) by omega, show ¬ bs = B from Ne.symm d1, show ¬ n = B by omega, List.length_map, List.getElem?_set, if_true]
  refine hK _ _ _ ?_
  clear hK K
  refine W.ret ?_
  simp only [go_sem]
  rw [← hadd]
  refine ⟨?_, by omega, by rw [List.map_set]; rfl, fun x hx hxB => ?_⟩
  · congr 2
    exact decide_eq_decide.2 Int.ofNat_inj
  · rw [if_neg hxB, if_neg (by omega)]

theorem f45 (g : Gr) (hg : g.Small) : FH pg Tq 45 [.agg (eGr g)] h0 0 fun r h _ => OwnU3 (firstL g) r h := by
  have hg1 : g.prods.length < 2 ^ 60 := hg.1
  refine FH.of (N := 29) (rs := #[.tmp 2]) Try.func45 rfl rfl (of_decide_eq_true rfl) rfl (by decide) ?_
  refine W.rseq (k := 2) rfl fun K hK => ?_
  simp only [go_sem]
  refine hK _ _ _ ?_
  clear hK K
  refine W.scope (WS.code ?_)
  refine W.seq ?_
  refine W.rseq (k := 3) rfl fun K hK => ?_
  simp only [go_sem]
  refine VCall.frz 6 (f87 g hg) rfl ?_
  try simp only [go_sem]
  refine hK _ _ _ ?_
  clear hK K
  cases hr : right g
  · refine W.condT (by simp only [go_sem]) ?_
    refine W.rseq (k := 1) rfl fun K hK => ?_
    simp only [go_sem]
    refine hK _ _ _ ?_
    clear hK K
    refine W.ret ?_
    simp only [go_sem]
    exact .inl ⟨by simp [firstL, hr], .inl rfl⟩
  refine W.condF (by simp only [go_sem]) ?_
  refine W.skip ?_
  simp only [go_sem]
  obtain ⟨⟨hn1, hn2⟩, _, _, hp60, _⟩ := right_in hr
  have hfin := right_fin hr
  obtain ⟨M, hM⟩ : ∃ M, M = g.nons.toNat := ⟨_, rfl⟩
  have hMn : g.nons = (M : Int) := by omega
  rw [← hM] at hfin
  obtain ⟨null, hnull⟩ : ∃ null, null = ranksL g false := ⟨_, rfl⟩
  have hnl : null.length = M := by have := (ranks_fin (terms := false) hr).1; rw [hnull]; omega
  have h30 := OwnFc.pf (f30 g hg)
  rw [← hnull] at h30
  refine W.rseq (k := 4) rfl fun K hK => ?_
  simp only [go_sem]
  refine VCall.frz 6 h30 rfl ?_
  try simp only [go_sem]
  refine hK _ _ _ ?_
  clear hK K
  have hrep : List.replicate M [AV.int .u32 0] = (List.replicate M 0).map eU3 := by simp [eU3]
  refine W.rseq (k := 5) rfl fun K hK => ?_
  simp only [go_sem, hMn, hrep, show (0 : Int) ≤ (M : Int) by omega, show (M : Int) * 4 ≤ 140737488355328 by omega, show (0 : Nat) < 4 by omega, show (0 : Nat) < 1 by omega]
  refine hK _ _ _ ?_
  clear hK K
  refine W.rseq (k := 2) rfl fun K hK => ?_
  simp only [go_sem]
  refine hK _ _ _ ?_
  clear hK K
  obtain ⟨bn, hbn⟩ : ∃ bn, bn = 7 := ⟨_, rfl⟩
  obtain ⟨B, hB⟩ : ∃ B, B = 11 := ⟨_, rfl⟩
  obtain ⟨bs, hbs⟩ : ∃ bs, bs = 12 := ⟨_, rfl⟩
  refine W.again rfl (fun k t h n => ∃ sets : List Nat, Lt32 sets ∧ sets.length = M ∧ missing sets < k ∧ fixF g null k sets = fixF g null (32 * M + 1) (List.replicate M 0) ∧ bs < n ∧ t 1 = .ptr 0 0 0 ∧ t 4 = .ptr bs 0 0 ∧ t 5 = .fn 95 [.ptr bs 0 0, .ptr bn 0 0] ∧
      h 0 = some (.cells [eGr g]) ∧ h bs = some (.cells [[.sl B 0 M 1]]) ∧ h B = some (.cells (sets.map eU3)) ∧ h bn = some (.cells [[.ro (null.map eFc)]])) (32 * M + 1)
    ⟨List.replicate M 0, ?_, by simp, ?_, rfl, by omega, rfl, by simp only [go_sem, hbs], by simp only [go_sem, hbs, hbn], by simp only [go_sem, hMn], by simp only [go_sem, hbs, hB], by simp only [go_sem, hB], by simp only [go_sem, hbn]⟩ fun k t h n ⟨sets, i1, i2, i3, i4, i5, i6, i7, i8, i9, i10, i11, i12⟩ => ?_
  · intro s hs; rw [List.mem_replicate] at hs; rw [hs.2]; decide
  · rw [missing_zero]; omega
  obtain ⟨k, rfl⟩ : ∃ k', k = k' + 1 := ⟨k - 1, by omega⟩
  rw [fixF] at i4
  refine W.seq ?_
  refine W.rseq (k := 4) rfl fun K hK => ?_
  simp only [go_sem, i6, i9]
  refine hK _ _ _ ?_
  clear hK K
  refine W.block (W.while (fun m t h n => ∃ j : Nat, m = g.prods.length - j ∧ j ≤ g.prods.length ∧ passF null sets g.prods = passF null sets (g.prods.drop j) ∧ bs < n ∧ t 1 = .ptr 0 0 0 ∧ t 4 = .ptr bs 0 0 ∧ t 5 = .fn 95 [.ptr bs 0 0, .ptr bn 0 0] ∧ t 18 = .ro (g.prods.map ePr) ∧ t 19 = .int .i64 g.prods.length ∧ t 20 = .int .i64 j ∧
      h 0 = some (.cells [eGr g]) ∧ h bs = some (.cells [[.sl B 0 M 1]]) ∧ h B = some (.cells (sets.map eU3)) ∧ h bn = some (.cells [[.ro (null.map eFc)]])) g.prods.length
    ⟨0, by simp, by simp, rfl, by omega, i6, i7, i8, rfl, rfl, rfl, by simp only [go_sem, i9], by simp only [go_sem, i10], by simp only [go_sem, i11], by simp only [go_sem, i12]⟩ fun m t h n ⟨j, j1, j2, j3, j4, j5, j6, j7, j8, j9, j10, j11, j12, j13, j14⟩ => ?_)
  refine W.rseq (k := 1) rfl fun K hK => ?_
  simp only [go_sem, j9, j10]
  refine hK _ _ _ ?_
  clear hK K
  refine W.seq ?_
  refine W.cond rfl (fun hc => ?_) fun hc => ?_
  · refine W.skip ?_
    simp only [go_sem]
    have hj : j < g.prods.length := by simp at hc; omega
    obtain ⟨p, hp⟩ := get_some hj
    have hm : p ∈ g.prods := List.mem_of_getElem? hp
    obtain ⟨⟨hl0, hl1⟩, hsy⟩ := hfin p hm
    have hdr : g.prods.drop j = p :: g.prods.drop (j + 1) := by
      rw [List.drop_eq_getElem_cons hj]
      congr 1
      exact (List.getElem_eq_iff hj).2 hp
    rw [hdr, passF] at j3
    refine W.seq (W.block ?_)
    refine W.rseq (k := 4) rfl fun K hK => ?_
    simp only [go_sem, j8, j10, hp]
    refine hK _ _ _ ?_
    clear hK K
    refine W.rseq (k := 3) rfl fun K hK => ?_
    simp only [go_sem, j7]
    refine VCall.heap (f95 p (hg.2 p hm) sets null i1 (by omega) hl0 (by omega) (by rw [i2]; exact hsy) bs B bn _ _ (by omega) (by omega) (by omega) (by omega) (by omega) (by rw [i2]; simp only [go_sem, show ∀ i, ¬ bs = n + i from fun i => by omega, j12]) (by simp only [go_sem, show ∀ i, ¬ B = n + i from fun i => by omega, j13]) (by simp only [go_sem, show ∀ i, ¬ bn = n + i from fun i => by omega, j14])) fun r h' x' ⟨er, hx, hBB, hoth⟩ => ?_
    subst er
    have o0 : h' 0 = some (.cells [eGr g]) := (hoth 0 (by omega) (by omega)).trans (by simp only [go_sem, show ∀ i, ¬ 0 = n + i from fun i => by omega, j11])
    have os : h' bs = some (.cells [[.sl B 0 M 1]]) := (hoth bs (by omega) (by omega)).trans (by simp only [go_sem, show ∀ i, ¬ bs = n + i from fun i => by omega, j12])
    have on : h' bn = some (.cells [[.ro (null.map eFc)]]) := (hoth bn (by omega) (by omega)).trans (by simp only [go_sem, show ∀ i, ¬ bn = n + i from fun i => by omega, j14])
    simp only [go_sem]
    refine hK _ _ _ ?_
    clear hK K
    by_cases he : addF null sets p = sets.getD p.left.toNat 0
    · rw [if_pos he] at j3
      have hset : sets.set p.left.toNat (addF null sets p) = sets := by
        rw [he]
        refine List.ext_getElem? fun x => ?_
        rw [List.getElem?_set]
        split
        · rename_i e; subst e
          rw [if_pos (by omega)]
          simp [show p.left.toNat < sets.length by omega]
        · rfl
      rw [hset] at hBB
      refine W.condF (by simp only [go_sem, he]) ?_
      refine W.skip ?_
      simp only [go_sem]
      refine W.region (k := 2) rfl ?_
      simp only [go_sem, j10]
      refine ⟨g.prods.length - (j + 1), by omega, j + 1, rfl, by omega, j3, by omega, j5, j6, j7, j8, j9, ?_, o0, os, hBB, on⟩
      rw [wrap64 (by omega) (by omega)]; rfl
    · rw [if_neg he] at j3
      rw [j3] at i4
      obtain ⟨p1, p2, p3⟩ := passF_less i1 g.prods (fun q hq => by rw [i2]; exact hfin q hq) j3
      refine W.condT (by simp only [go_sem, decide_eq_false he]) ?_
      refine W.goto ?_
      simp only [go_sem]
      exact ⟨k, by omega, _, p2, by rw [p3]; exact i2, by omega, i4, by omega, j5, j6, j7, o0, os, hBB, on⟩
  · refine W.exit ?_
    simp only [go_sem]
    have hj : j = g.prods.length := by simp at hc; omega
    subst hj
    rw [List.drop_length, passF] at j3
    rw [j3] at i4
    refine W.rseq (k := 2) rfl fun K hK => ?_
    simp only [go_sem, j6, j12]
    refine hK _ _ _ ?_
    clear hK K
    refine W.ret ?_
    simp only [go_sem]
    have : firstL g = sets := by
      rw [firstL, hr, if_pos rfl, ← hnull, ← hM, ← i4]
    rw [this]
    exact .inr ⟨B, by rw [i2], j13⟩

end Go.Av

