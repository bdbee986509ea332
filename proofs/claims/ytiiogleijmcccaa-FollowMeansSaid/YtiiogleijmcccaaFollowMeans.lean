/-
  The statement 'FollowMeans': for every input the law returns true, and the arguments read as they did. Conditions: none.
-/
import Derived.Test.YtiiogleijmcccaaD1
import Derived.Test.YtiiogleijmcccaaD2
import Derived.Test.YtiiogleijmcccaaG6
namespace Go.Proofs.Ytiiogleijmcccaa
open Go.ChangeShapes Go.WideShapes Go.ChangeAt Go.RowKit Go.Av

set_option maxRecDepth 100000 in
theorem followMeans_lifted (os : Os) (started : os.Started) (H : Type) (enc : TypeId × Value → H) :
    ReturnsInHanded {} Try.checked os 14 .any (Rows.followMeansSpec.pre6 enc Try.prog Try.f14 Rows.followMeansRow.domain false) (Rows.followMeansSpec.post enc Try.prog Try.f14 false true false false) := by
  refine returnsInHanded_of_change_sized (C := Try.checked) ownK started (by kernel_rfl) Try.func14
    (ChangeSpec.witness6 (enc := enc) (C := Try.checked) false ⟨#[], #[.agg #[.int .i64 0, .int .i64 0, .int .i64 0, .slice none 0 0], .slice none 0 0], []⟩ 8 (by kernel_rfl) (by kernel_rfl) (by kernel_rfl) (by kernel_rfl)) ?_
  intro W base args ds gs before hval0 hW hcnd hsz0 _
  have hval : ∀ (j : Nat) t v, Try.f14.params[j]? = some t → args[j]? = some v → Value.okWide Try.prog W .any base t v := hval0
  have hsz : (DataW.weightsEach Try.prog (Try.f14.params.toList ++ []) (ds ++ gs)).all (· ≤ reachBytes) = true := hsz0
  clear hsz0 hval0
  have hW' := hW
  obtain ⟨p, q, hA0, hV, rfl, hfz, hnd⟩ := hW
  have hA : DataW.TrodAll enc Try.prog W 0 (fun _ => true) true Try.f14.params.toList args.toList ds p := hA0
  rw [Try.params14] at hA hval hsz
  obtain ⟨rfl, rfl⟩ := trodVars_none hV
  obtain ⟨v0, v1, d0, d1, p0, p1, rfl, rfl, rfl, k0, k1⟩ := trodAll_two hA
  have hw : ∀ n ∈ DataW.weightsEach Try.prog [24, 34] [d0, d1], n ≤ reachBytes := fun n hn => by simpa using List.all_eq_true.1 hsz n hn
  obtain ⟨x0, r0, e0⟩ := argGr (hval 0 24 v0 rfl rfl) k0 fun n hn => hw n (by simp [DataW.weightsEach, hn])
  obtain ⟨x1, r1, e1⟩ := argU8s (hval 1 34 v1 rfl rfl) k1 fun n hn => hw n (by simp [DataW.weightsEach, hn])
  refine (call_of_FH tabOK mixed (f14 x0 e0.1 x1 e1.1 e1.2) (LR.cons r0 (LR.cons r1 LR.nil))).mono fun e W' ⟨he, hb⟩ => ⟨_, he, ?_⟩
  refine post_of_below laidOut hW' hb rfl rfl Try.underlying4 (fun t ht => ?_) rfl
  rw [Try.params14] at ht
  simp only [List.mem_cons, List.not_mem_nil, or_false] at ht
  rcases ht with rfl | rfl <;> exact ⟨by kernel_rfl, of_decide_eq_true (by kernel_rfl)⟩

theorem followMeans_a : (Rows.followMeansRow.inPlace == pj.inPlace 14) = true := by kernel_rfl
theorem followMeans_b : (Rows.followMeansRow.unfollowed == pj.unfollowed 14) = true := by kernel_rfl
theorem followMeans_c : (Rows.followMeansRow.recurses == pj.recurses 14) = true := by kernel_rfl
theorem followMeans_d : (Rows.followMeansRow.named == pj.varsNamed 14) = true := by kernel_rfl
theorem followMeans_e : pj.funcNamed Rows.followMeansRow.func = some 14 := by kernel_rfl

theorem followMeans_closed : joinedFacts pj 14 Try.f14 Rows.followMeansSpec Rows.followMeansRow = true :=
  joined_of (by kernel_rfl) followMeans_a followMeans_b followMeans_c followMeans_d (by kernel_rfl) (by kernel_rfl) rfl (by kernel_rfl) (by kernel_rfl)

theorem followMeans_holds : Rows.FollowMeansSaid :=
  OpenClaim.holds_of_wide 14 Try.f14 rfl rfl rfl rfl rfl rfl rfl ⟨rfl, rfl, rfl, rfl, rfl⟩ rfl rfl rfl rfl rfl followMeans_e Try.func14 followMeans_closed
    (of_decide_eq_true (by kernel_rfl)) (by unfold Func.isWrapper; first | (rw [if_pos (by decide +kernel)]; kernel_rfl) | (rw [if_neg (by decide +kernel)]; exact ⟨rfl, rfl⟩))
    (fun os started H enc _ => followMeans_lifted os started H enc)

#print axioms followMeans_holds
end Go.Proofs.Ytiiogleijmcccaa

