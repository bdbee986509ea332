/-
  Layer 9's statements: the calls whose answers the document fixes. Conditions: none.
-/
import Derived.Test.YtiiogleijmcccaaB10
namespace Go.Av
open Go.Proofs
set_option maxRecDepth 100000
set_option linter.unusedSimpArgs false
set_option linter.unusedVariables false

theorem VCall.fcq {s : Nat} {g : FuncId} {args args' : List AV} {h : Heap} {x : Nat} {k : Cls → AV → Heap → Nat → Prop} {l : List Fc} (d : Nat) (hf : FH pg Tq g args' h0 0 fun r h _ => OwnFc l r h) (hr : rfs true d h args = some args')
    (k1 : l = [] → k .Q (.ro []) h x) (k2 : k .Q (.sl s 0 l.length 2) (upd h s (some (.cells (l.map eFc)))) x) : VCall pg Tq s g args h x k := by
  obtain ⟨r, h', n', hb, ho⟩ := hf
  rcases ho with ⟨rfl, rfl | rfl⟩ | ⟨b, rfl, hh⟩
  · exact .inr (.inl ⟨true, d, 1, args', .nils, .ro [], h', n', hr, hb, by simp [rf], k1 rfl⟩)
  · exact .inr (.inl ⟨true, d, 1, args', .ro [], .ro [], h', n', hr, hb, by simp [rf], k1 rfl⟩)
  · exact .inr (.inr ⟨true, d, 3, args', b, _, 2, _, l.map eFc, h', n', hr, hb, hh, by simp, rfe_fc l, k2⟩)

def ga : Gr := ⟨1, 3, 0, [⟨0, [⟨true, 1⟩, ⟨true, 1⟩]⟩, ⟨1, []⟩, ⟨2, [⟨false, 0⟩]⟩]⟩

theorem ga_small : ga.Small := by
  refine ⟨by decide, fun p hp => ?_⟩
  simp [ga] at hp
  rcases hp with rfl | rfl | rfl <;> decide

theorem ga_null : ranksL ga false = [(2, 0), (1, 1), (0, 0)] := by kernel_rfl
theorem ga_prod : ranksL ga true = [(2, 0), (1, 1), (1, 2)] := by kernel_rfl

theorem f27 : PF pg Tq 27 [] (.bool true) := by
  refine Fb ?_
  refine FH.of (N := 55) (rs := #[.tmp 0]) Try.func27 rfl rfl (of_decide_eq_true rfl) rfl (by decide) ?_
  refine W.rseq (k := 1) rfl fun K hK => ?_
  simp only [go_sem]
  refine hK _ _ _ ?_
  clear hK K
  refine W.rseq (k := 3) rfl fun K hK => ?_
  simp only [go_sem]
  refine hK _ _ _ ?_
  clear hK K
  refine W.rseq (k := 12) rfl fun K hK => ?_
  simp only [go_sem, show (0 : Nat) < 2 by omega, show (0 : Nat) < 3 by omega, show ¬ (2 : Nat) = 0 by omega, show ¬ (3 : Nat) = 0 by omega, show ¬ (1 : Nat) = 0 by omega, show (1 : Nat) < 2 by omega, show (0 : Nat) < 1 by omega, show (1 : Nat) < 3 by omega, show (2 : Nat) < 3 by omega]
  refine hK _ _ _ ?_
  clear hK K
  have h30 := f30 ga ga_small
  have h32 := f32 ga ga_small
  rw [ga_null] at h30
  rw [ga_prod] at h32
  refine W.dseq (k := 6) rfl fun K hK => ?_
  simp only [go_sem]
  refine VCall.fcq 20 h30 (by kernel_rfl) (fun h => by cases h) ?_
  simp only [go_sem]
  refine VCall.fcq 20 h32 (by kernel_rfl) (fun h => by cases h) ?_
  simp only [go_sem]
  refine hK _ _ _ _ (by kernel_rfl) ?_
  clear hK K
  refine W.rseq (k := 36) rfl fun K hK => ?_
  simp only [go_sem, show (0 : Nat) < 3 by omega, show (1 : Nat) < 3 by omega, show (2 : Nat) < 3 by omega, show ¬ (3 : Nat) = 0 by omega, List.map_cons, List.map_nil]
  refine VCall.frzq 20 (by kernel_rfl) (f29 [(2, 0), (1, 1), (0, 0)] [(2, 0), (1, 1), (0, 0)] (by decide) (by decide)) ?_
  simp only [go_sem, show (([(2, 0), (1, 1), (0, 0)] : List Fc) == [(2, 0), (1, 1), (0, 0)]) = true from by kernel_rfl, show (0 : Nat) < 3 by omega, show (1 : Nat) < 3 by omega, show (2 : Nat) < 3 by omega, show ¬ (3 : Nat) = 0 by omega]
  refine VCall.frzq 20 (by kernel_rfl) (f29 [(2, 0), (1, 1), (1, 2)] [(2, 0), (1, 1), (1, 2)] (by decide) (by decide)) ?_
  simp only [go_sem, show (([(2, 0), (1, 1), (1, 2)] : List Fc) == [(2, 0), (1, 1), (1, 2)]) = true from by kernel_rfl]
  refine VCall.frzq 20 (by kernel_rfl) (f33 ga ga_small [(2, 0), (1, 1), (0, 0)] (by decide) false) ?_
  simp only [go_sem, show shows ga [(2, 0), (1, 1), (0, 0)] false = true from by kernel_rfl]
  refine VCall.frzq 20 (by kernel_rfl) (f33 ga ga_small [(2, 0), (1, 1), (1, 2)] (by decide) true) ?_
  simp only [go_sem, show shows ga [(2, 0), (1, 1), (1, 2)] true = true from by kernel_rfl]
  refine VCall.frzq 20 (by kernel_rfl) (f33 ga ga_small [(2, 0), (1, 1), (1, 2)] (by decide) false) ?_
  simp only [go_sem, show shows ga [(2, 0), (1, 1), (1, 2)] false = false from by kernel_rfl]
  refine VCall.frzq 20 (by kernel_rfl) (f33 ga ga_small [] (by decide) true) ?_
  simp only [go_sem, show shows ga [] true = false from by kernel_rfl]
  refine hK _ _ _ ?_
  clear hK K
  refine W.ret ?_
  simp only [go_sem]

end Go.Av

