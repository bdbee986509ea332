/-
  The statement 'FollowClosed': for every input the law returns true, and the arguments read as they did. Conditions: none.
-/
import Derived.Test.YtiiogleijmcccaaD1
import Derived.Test.YtiiogleijmcccaaD2
import Derived.Test.YtiiogleijmcccaaG5
namespace Go.Proofs.Ytiiogleijmcccaa
open Go.ChangeShapes Go.WideShapes Go.ChangeAt Go.RowKit Go.Av

set_option maxRecDepth 100000 in
theorem followClosed_lifted (os : Os) (started : os.Started) (H : Type) (enc : TypeId × Value → H) :
    ReturnsInHanded {} Try.checked os 13 .any (Rows.followClosedSpec.pre6 enc Try.prog Try.f13 Rows.followClosedRow.domain false) (Rows.followClosedSpec.post enc Try.prog Try.f13 false true false false) := by
  refine returnsInHanded_of_change_sized (C := Try.checked) ownK started (by kernel_rfl) Try.func13
    (ChangeSpec.witness6 (enc := enc) (C := Try.checked) false ⟨#[], #[.agg #[.int .i64 0, .int .i64 0, .int .i64 0, .slice none 0 0]], []⟩ 8 (by kernel_rfl) (by kernel_rfl) (by kernel_rfl) (by kernel_rfl)) ?_
  intro W base args ds gs before hval0 hW hcnd hsz0 _
  have hval : ∀ (j : Nat) t v, Try.f13.params[j]? = some t → args[j]? = some v → Value.okWide Try.prog W .any base t v := hval0
  have hsz : (DataW.weightsEach Try.prog (Try.f13.params.toList ++ []) (ds ++ gs)).all (· ≤ reachBytes) = true := hsz0
  clear hsz0 hval0
  have hW' := hW
  obtain ⟨p, q, hA0, hV, rfl, hfz, hnd⟩ := hW
  have hA : DataW.TrodAll enc Try.prog W 0 (fun _ => true) true Try.f13.params.toList args.toList ds p := hA0
  rw [Try.params13] at hA hval hsz
  obtain ⟨rfl, rfl⟩ := trodVars_none hV
  obtain ⟨v0, d0, rfl, rfl, k0⟩ := trodAll_one hA
  have hw : ∀ n ∈ DataW.weightsEach Try.prog [24] [d0], n ≤ reachBytes := fun n hn => by simpa using List.all_eq_true.1 hsz n hn
  obtain ⟨x0, r0, e0⟩ := argGr (hval 0 24 v0 rfl rfl) k0 fun n hn => hw n (by simp [DataW.weightsEach, hn])
  refine (call_of_FH tabOK mixed (f13 x0 e0.1) (LR.cons r0 LR.nil)).mono fun e W' ⟨he, hb⟩ => ⟨_, he, ?_⟩
  refine post_of_below laidOut hW' hb rfl rfl Try.underlying4 (fun t ht => ?_) rfl
  rw [Try.params13] at ht
  simp only [List.mem_cons, List.not_mem_nil, or_false] at ht
  rcases ht with rfl <;> exact ⟨by kernel_rfl, of_decide_eq_true (by kernel_rfl)⟩

theorem followClosed_a : (Rows.followClosedRow.inPlace == pj.inPlace 13) = true := by kernel_rfl
theorem followClosed_b : (Rows.followClosedRow.unfollowed == pj.unfollowed 13) = true := by kernel_rfl
theorem followClosed_c : (Rows.followClosedRow.recurses == pj.recurses 13) = true := by kernel_rfl
theorem followClosed_d : (Rows.followClosedRow.named == pj.varsNamed 13) = true := by kernel_rfl
theorem followClosed_e : pj.funcNamed Rows.followClosedRow.func = some 13 := by kernel_rfl

theorem followClosed_closed : joinedFacts pj 13 Try.f13 Rows.followClosedSpec Rows.followClosedRow = true :=
  joined_of (by kernel_rfl) followClosed_a followClosed_b followClosed_c followClosed_d (by kernel_rfl) (by kernel_rfl) rfl (by kernel_rfl) (by kernel_rfl)

theorem followClosed_holds : Rows.FollowClosedSaid :=
  OpenClaim.holds_of_wide 13 Try.f13 rfl rfl rfl rfl rfl rfl rfl ⟨rfl, rfl, rfl, rfl, rfl⟩ rfl rfl rfl rfl rfl followClosed_e Try.func13 followClosed_closed
    (of_decide_eq_true (by kernel_rfl)) (by unfold Func.isWrapper; first | (rw [if_pos (by decide +kernel)]; kernel_rfl) | (rw [if_neg (by decide +kernel)]; exact ⟨rfl, rfl⟩))
    (fun os started H enc _ => followClosed_lifted os started H enc)

#print axioms followClosed_holds
end Go.Proofs.Ytiiogleijmcccaa

