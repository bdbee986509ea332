/-
  Layer 11's statement FirstTells: the walk. Conditions: none.
-/
import Derived.Test.YtiiogleijmcccaaC11d
namespace Go.Av
open Go.Proofs
set_option maxRecDepth 100000
set_option linter.unusedSimpArgs false
set_option linter.unusedVariables false

theorem first_len (g : Gr) : (firstL g).length < 2 ^ 40 := by
  cases h : right g
  · simp [firstL, h]
  · obtain ⟨⟨_, h1⟩, _⟩ := right_in h
    rw [(first_fin h).1]; omega

theorem first_lt (g : Gr) : Lt32 (firstL g) := by
  cases h : right g
  · simp [firstL, h, Lt32]
  · exact (first_fin h).2.1

set_option maxHeartbeats 4000000 in
theorem f9 (g : Gr) (hg : g.Small) (l : List Sy) (hl : l.length < 2 ^ 60) : FH pg Tq 9 [.agg (eGr g), .ro (l.map eSy)] h0 0 fun r _ _ => r = .bool true := by
  have hgl : g.prods.length < 2 ^ 60 := hg.1
  have hf := first_len g
  have h47 := OwnSt.pf (f47 g hg)
  rw [firstR_eq] at h47
  have h46 := OwnU3.pf (f46 (firstL g) (first_lt g) hf)
  have h45 := OwnU3.pf (f45 g hg)
  refine FH.of (N := 64) (rs := #[.tmp 4]) Try.func9 rfl rfl (of_decide_eq_true rfl) rfl (by decide) ?_
  refine W.rseq (k := 2) rfl fun K hK => ?_
  simp only [go_sem]
  refine hK _ _ _ ?_
  clear hK K
  refine W.seq ?_
  refine W.rseq (k := 2) rfl fun K hK => ?_
  simp only [go_sem]
  refine VCall.frz 6 f42 rfl ?_
  try simp only [go_sem]
  refine hK _ _ _ ?_
  clear hK K
  refine W.condF (by simp only [go_sem]) ?_
  refine W.skip ?_
  simp only [go_sem]
  refine W.seq ?_
  refine W.rseq (k := 7) rfl fun K hK => ?_
  have out : ∀ t h n, t 17 = .bool true → K t h n := by
    intro t h n e
    refine hK _ _ _ ?_
    clear hK K
    refine W.condT (by simp only [go_sem, e]) ?_
    refine W.rseq (k := 1) rfl fun K hK => ?_
    simp only [go_sem]
    refine hK _ _ _ ?_
    clear hK K
    refine W.ret ?_
    simp only [go_sem]
  simp only [go_sem]
  refine VCall.frz 6 (f28 g hg) rfl ?_
  rcases Bool.eq_false_or_eq_true (large g) with hL | hL
  · simp only [go_sem, hL]
    exact out _ _ _ rfl
  simp only [hL]
  by_cases h20 : (20 : Int) < l.length
  · simp only [go_sem, show decide ((20 : Int) < l.length) = true by simp [h20]]
    exact out _ _ _ rfl
  simp only [go_sem, show decide ((20 : Int) < l.length) = false by simp [h20]]
  clear out
  refine hK _ _ _ ?_
  first | clear hK K | clear hK | skip
  refine W.condF (by simp only [go_sem]) ?_
  refine W.skip ?_
  simp only [go_sem]
  refine W.rseq (k := 8) rfl fun K hK => ?_
  simp only [go_sem]
  refine VCall.frz 6 (f43 g hg l hl) rfl ?_
  try simp only [go_sem]
  refine hK _ _ _ ?_
  clear hK K
  refine W.seq ?_
  refine W.dseq (k := 7) rfl fun K hK => ?_
  simp only [go_sem]
  refine VCall.frzq 6 rfl h45 ?_
  simp only [go_sem]
  refine VCall.frzq 6 rfl h47 ?_
  simp only [go_sem]
  refine VCall.frzq 6 rfl h46 ?_
  simp only [go_sem]
  refine VCall.frzq 6 rfl (f44 (firstL g) (firstL g) (by omega) (by omega)) ?_
  simp only [go_sem]
  refine hK _ _ _ _ (by kernel_rfl) ?_
  clear hK K
  refine W.condF (by simp only [go_sem, beq_self_eq_true, Bool.not_true]) ?_
  refine W.skip ?_
  simp only [go_sem]
  refine W.seq ?_
  refine W.rseq (k := 9) rfl fun K hK => ?_
  simp only [go_sem]
  refine VCall.frz 6 (f35 g hg) rfl ?_
  cases hr : right g
  · have ho : ofL g l = (0, false) := by simp [ofL, hr]
    simp only [go_sem]
    refine hK _ _ _ ?_
    first | clear hK K | clear hK | skip
    refine W.condT (by simp only [go_sem]) ?_
    refine W.rseq (k := 7) rfl fun K hK => ?_
    simp only [go_sem, ho]
    refine hK _ _ _ ?_
    clear hK K
    refine W.ret ?_
    simp only [go_sem]
  simp only [go_sem]
  refine VCall.frz 6 (f48 g l hl) rfl ?_
  cases ht : l.all (there g)
  · have ho : ofL g l = (0, false) := by simp [ofL, ht]
    simp only [go_sem]
    refine hK _ _ _ ?_
    first | clear hK K | clear hK | skip
    refine W.condT (by simp only [go_sem]) ?_
    refine W.rseq (k := 7) rfl fun K hK => ?_
    simp only [go_sem, ho]
    refine hK _ _ _ ?_
    clear hK K
    refine W.ret ?_
    simp only [go_sem]
  simp only [go_sem]
  refine hK _ _ _ ?_
  first | clear hK K | clear hK | skip
  refine W.condF (by simp only [go_sem]) ?_
  refine W.skip ?_
  simp only [go_sem]
  have ho : ofL g l = rowW (firstL g) (ranksL g false) 0 l := by simp [ofL, hr, ht]
  have hfl : (firstL g).length = g.nons.toNat := (first_fin hr).1
  have hrl : (ranksL g false).length = (firstL g).length := by have := (ranks_fin (terms := false) hr).1; omega
  have h31 := OwnFc.pf (f31 g hg false)
  rw [← ranks_same] at h31
  have hsy : SyIn (firstL g).length l := by
    obtain ⟨⟨hn1, hn2⟩, ⟨ht1, ht2⟩, _⟩ := right_in hr
    intro s hs
    have := List.all_eq_true.1 ht s hs
    simp only [there, Bool.and_eq_true, decide_eq_true_eq] at this
    refine ⟨this.1, ?_⟩
    have h2 := this.2
    split
    · rename_i h; rw [if_pos h] at h2; omega
    · rename_i h; rw [if_neg h] at h2; omega
  have h49 := f49 l (firstL g) (ranksL g false) hl hrl hsy
  rw [← ho] at h49
  have hlt : (ofL g l).1 < 2 ^ 32 := ofL_lt l
  have h50 := f50 (ofL g l).1 hlt
  have hxl : (eSt (ofL g l).1).length = 32 := cB_len
  have hxa : (eSt (ofL g l).1).all scal = true := cB_scal
  refine W.dseq (k := 12) rfl fun K hK => ?_
  simp only [go_sem]
  refine VCall.frzq 6 rfl h47 ?_
  simp only [go_sem]
  refine VCall.frzq 6 rfl h31 ?_
  simp only [go_sem]
  refine VCall.frzq 6 rfl h49 ?_
  simp only [go_sem, hxl, hxa, eSt_take, eSt_drop, List.append_nil, Nat.le_refl, and_self, if_true]
  refine hK _ _ _ _ (by kernel_rfl) ?_
  clear hK K
  refine W.rseq (k := 10) rfl fun K hK => ?_
  simp only [go_sem, hxl, eSt_take, Nat.le_refl, if_true]
  refine VCall.frz 6 h50 (rfs_cons rf_st rfs_nil) ?_
  simp only [go_sem, beq_self_eq_true]
  refine hK _ _ _ ?_
  first | clear hK K | clear hK | skip
  refine W.ret ?_
  simp only [go_sem]

end Go.Av

