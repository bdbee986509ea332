/-
  The statement 'LeadEnds': for every input the law returns true, and the arguments read as they did. Conditions: none.
-/
import Derived.Test.YtiiogleijmcccaaD1
import Derived.Test.YtiiogleijmcccaaD2
import Derived.Test.YtiiogleijmcccaaZE
namespace Go.Proofs.Ytiiogleijmcccaa
open Go.ChangeShapes Go.WideShapes Go.ChangeAt Go.RowKit Go.Av

set_option maxRecDepth 100000 in
theorem leadEnds_lifted (os : Os) (started : os.Started) (H : Type) (enc : TypeId × Value → H) :
    ReturnsInHanded {} Try.checked os 25 .any (Rows.leadEndsSpec.pre6 enc Try.prog Try.f25 Rows.leadEndsRow.domain false) (Rows.leadEndsSpec.post enc Try.prog Try.f25 false true false false) := by
  refine returnsInHanded_of_change_sized (C := Try.checked) ownK started (by kernel_rfl) Try.func25
    (ChangeSpec.witness6 (enc := enc) (C := Try.checked) false ⟨#[], #[.agg #[.int .i64 0, .int .i64 0, .int .i64 0, .slice none 0 0], .slice none 0 0, .slice none 0 0], []⟩ 8 (by kernel_rfl) (by kernel_rfl) (by kernel_rfl) (by kernel_rfl)) ?_
  intro W base args ds gs before hval0 hW hcnd hsz0 _
  have hval : ∀ (j : Nat) t v, Try.f25.params[j]? = some t → args[j]? = some v → Value.okWide Try.prog W .any base t v := hval0
  have hsz : (DataW.weightsEach Try.prog (Try.f25.params.toList ++ []) (ds ++ gs)).all (· ≤ reachBytes) = true := hsz0
  clear hsz0 hval0
  have hW' := hW
  obtain ⟨p, q, hA0, hV, rfl, hfz, hnd⟩ := hW
  have hA : DataW.TrodAll enc Try.prog W 0 (fun _ => true) true Try.f25.params.toList args.toList ds p := hA0
  rw [Try.params25] at hA hval hsz
  obtain ⟨rfl, rfl⟩ := trodVars_none hV
  obtain ⟨v0, v1, v2, d0, d1, d2, p0, p1, p2, rfl, rfl, rfl, k0, k1, k2⟩ := trodAll_three hA
  have hw : ∀ n ∈ DataW.weightsEach Try.prog [24, 35, 35] [d0, d1, d2], n ≤ reachBytes := fun n hn => by simpa using List.all_eq_true.1 hsz n hn
  obtain ⟨x0, r0, e0⟩ := argGr (hval 0 24 v0 rfl rfl) k0 fun n hn => hw n (by simp [DataW.weightsEach, hn])
  obtain ⟨x1, r1, e1⟩ := argIns (hval 1 35 v1 rfl rfl) k1 fun n hn => hw n (by simp [DataW.weightsEach, hn])
  obtain ⟨x2, r2, e2⟩ := argIns (hval 2 35 v2 rfl rfl) k2 fun n hn => hw n (by simp [DataW.weightsEach, hn])
  refine (call_of_FH tabOK mixed (f25 x0 e0.1 x1 x2 e2.1) (LR.cons r0 (LR.cons r1 (LR.cons r2 LR.nil)))).mono fun e W' ⟨he, hb⟩ => ⟨_, he, ?_⟩
  refine post_of_below laidOut hW' hb rfl rfl Try.underlying4 (fun t ht => ?_) rfl
  rw [Try.params25] at ht
  simp only [List.mem_cons, List.not_mem_nil, or_false] at ht
  rcases ht with rfl | rfl | rfl <;> exact ⟨by kernel_rfl, of_decide_eq_true (by kernel_rfl)⟩

theorem leadEnds_a : (Rows.leadEndsRow.inPlace == pj.inPlace 25) = true := by kernel_rfl
theorem leadEnds_b : (Rows.leadEndsRow.unfollowed == pj.unfollowed 25) = true := by kernel_rfl
theorem leadEnds_c : (Rows.leadEndsRow.recurses == pj.recurses 25) = true := by kernel_rfl
theorem leadEnds_d : (Rows.leadEndsRow.named == pj.varsNamed 25) = true := by kernel_rfl
theorem leadEnds_e : pj.funcNamed Rows.leadEndsRow.func = some 25 := by kernel_rfl

theorem leadEnds_closed : joinedFacts pj 25 Try.f25 Rows.leadEndsSpec Rows.leadEndsRow = true :=
  joined_of (by kernel_rfl) leadEnds_a leadEnds_b leadEnds_c leadEnds_d (by kernel_rfl) (by kernel_rfl) rfl (by kernel_rfl) (by kernel_rfl)

theorem leadEnds_holds : Rows.LeadEndsSaid :=
  OpenClaim.holds_of_wide 25 Try.f25 rfl rfl rfl rfl rfl rfl rfl ⟨rfl, rfl, rfl, rfl, rfl⟩ rfl rfl rfl rfl rfl leadEnds_e Try.func25 leadEnds_closed
    (of_decide_eq_true (by kernel_rfl)) (by unfold Func.isWrapper; first | (rw [if_pos (by decide +kernel)]; kernel_rfl) | (rw [if_neg (by decide +kernel)]; exact ⟨rfl, rfl⟩))
    (fun os started H enc _ => leadEnds_lifted os started H enc)

#print axioms leadEnds_holds
end Go.Proofs.Ytiiogleijmcccaa

