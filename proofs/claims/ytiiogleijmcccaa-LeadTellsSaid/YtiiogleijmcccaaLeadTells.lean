/-
  The statement 'LeadTells': for every input the law returns true, and the arguments read as they did. Conditions: none.
-/
import Derived.Test.YtiiogleijmcccaaD1
import Derived.Test.YtiiogleijmcccaaD2
import Derived.Test.YtiiogleijmcccaaZK
namespace Go.Proofs.Ytiiogleijmcccaa
open Go.ChangeShapes Go.WideShapes Go.ChangeAt Go.RowKit Go.Av

set_option maxRecDepth 100000 in
theorem leadTells_lifted (os : Os) (started : os.Started) (H : Type) (enc : TypeId × Value → H) :
    ReturnsInHanded {} Try.checked os 23 .any (Rows.leadTellsSpec.pre6 enc Try.prog Try.f23 Rows.leadTellsRow.domain false) (Rows.leadTellsSpec.post enc Try.prog Try.f23 false true false false) := by
  refine returnsInHanded_of_change_sized (C := Try.checked) ownK started (by kernel_rfl) Try.func23
    (ChangeSpec.witness6 (enc := enc) (C := Try.checked) false ⟨#[], #[.agg #[.int .i64 0, .int .i64 0, .int .i64 0, .slice none 0 0], .slice none 0 0, .int .i64 0], []⟩ 8 (by kernel_rfl) (by kernel_rfl) (by kernel_rfl) (by kernel_rfl)) ?_
  intro W base args ds gs before hval0 hW hcnd hsz0 _
  have hval : ∀ (j : Nat) t v, Try.f23.params[j]? = some t → args[j]? = some v → Value.okWide Try.prog W .any base t v := hval0
  have hsz : (DataW.weightsEach Try.prog (Try.f23.params.toList ++ []) (ds ++ gs)).all (· ≤ reachBytes) = true := hsz0
  clear hsz0 hval0
  have hW' := hW
  obtain ⟨p, q, hA0, hV, rfl, hfz, hnd⟩ := hW
  have hA : DataW.TrodAll enc Try.prog W 0 (fun _ => true) true Try.f23.params.toList args.toList ds p := hA0
  rw [Try.params23] at hA hval hsz
  obtain ⟨rfl, rfl⟩ := trodVars_none hV
  obtain ⟨v0, v1, v2, d0, d1, d2, p0, p1, p2, rfl, rfl, rfl, k0, k1, k2⟩ := trodAll_three hA
  have hw : ∀ n ∈ DataW.weightsEach Try.prog [24, 35, 3] [d0, d1, d2], n ≤ reachBytes := fun n hn => by simpa using List.all_eq_true.1 hsz n hn
  obtain ⟨x0, r0, e0⟩ := argGr (hval 0 24 v0 rfl rfl) k0 fun n hn => hw n (by simp [DataW.weightsEach, hn])
  obtain ⟨x1, r1, e1⟩ := argIns (hval 1 35 v1 rfl rfl) k1 fun n hn => hw n (by simp [DataW.weightsEach, hn])
  obtain ⟨x2, r2, e2⟩ := argInt (hval 2 3 v2 rfl rfl) k2
  refine (call_of_FH tabOK mixed (f23 x0 e0.1 x1 x2) (LR.cons r0 (LR.cons r1 (LR.cons r2 LR.nil)))).mono fun e W' ⟨he, hb⟩ => ⟨_, he, ?_⟩
  refine post_of_below laidOut hW' hb rfl rfl Try.underlying4 (fun t ht => ?_) rfl
  rw [Try.params23] at ht
  simp only [List.mem_cons, List.not_mem_nil, or_false] at ht
  rcases ht with rfl | rfl | rfl <;> exact ⟨by kernel_rfl, of_decide_eq_true (by kernel_rfl)⟩

theorem leadTells_a : (Rows.leadTellsRow.inPlace == pj.inPlace 23) = true := by kernel_rfl
theorem leadTells_b : (Rows.leadTellsRow.unfollowed == pj.unfollowed 23) = true := by kernel_rfl
theorem leadTells_c : (Rows.leadTellsRow.recurses == pj.recurses 23) = true := by kernel_rfl
theorem leadTells_d : (Rows.leadTellsRow.named == pj.varsNamed 23) = true := by kernel_rfl
theorem leadTells_e : pj.funcNamed Rows.leadTellsRow.func = some 23 := by kernel_rfl

theorem leadTells_closed : joinedFacts pj 23 Try.f23 Rows.leadTellsSpec Rows.leadTellsRow = true :=
  joined_of (by kernel_rfl) leadTells_a leadTells_b leadTells_c leadTells_d (by kernel_rfl) (by kernel_rfl) rfl (by kernel_rfl) (by kernel_rfl)

theorem leadTells_holds : Rows.LeadTellsSaid :=
  OpenClaim.holds_of_wide 23 Try.f23 rfl rfl rfl rfl rfl rfl rfl ⟨rfl, rfl, rfl, rfl, rfl⟩ rfl rfl rfl rfl rfl leadTells_e Try.func23 leadTells_closed
    (of_decide_eq_true (by kernel_rfl)) (by unfold Func.isWrapper; first | (rw [if_pos (by decide +kernel)]; kernel_rfl) | (rw [if_neg (by decide +kernel)]; exact ⟨rfl, rfl⟩))
    (fun os started H enc _ => leadTells_lifted os started H enc)

#print axioms leadTells_holds
end Go.Proofs.Ytiiogleijmcccaa

