/-
  The statement 'LeadComes': for every input the law returns true, and the arguments read as they did. Conditions: none.
-/
import Derived.Test.YtiiogleijmcccaaD1
import Derived.Test.YtiiogleijmcccaaD2
import Derived.Test.YtiiogleijmcccaaZF
namespace Go.Proofs.Ytiiogleijmcccaa
open Go.ChangeShapes Go.WideShapes Go.ChangeAt Go.RowKit Go.Av

set_option maxRecDepth 100000 in
theorem leadComes_lifted (os : Os) (started : os.Started) (H : Type) (enc : TypeId × Value → H) :
    ReturnsInHanded {} Try.checked os 24 .any (Rows.leadComesSpec.pre6 enc Try.prog Try.f24 Rows.leadComesRow.domain false) (Rows.leadComesSpec.post enc Try.prog Try.f24 false true false false) := by
  refine returnsInHanded_of_change_sized (C := Try.checked) ownK started (by kernel_rfl) Try.func24
    (ChangeSpec.witness6 (enc := enc) (C := Try.checked) false ⟨#[], #[.agg #[.int .i64 0, .int .i64 0, .int .i64 0, .slice none 0 0], .slice none 0 0], []⟩ 8 (by kernel_rfl) (by kernel_rfl) (by kernel_rfl) (by kernel_rfl)) ?_
  intro W base args ds gs before hval0 hW hcnd hsz0 _
  have hval : ∀ (j : Nat) t v, Try.f24.params[j]? = some t → args[j]? = some v → Value.okWide Try.prog W .any base t v := hval0
  have hsz : (DataW.weightsEach Try.prog (Try.f24.params.toList ++ []) (ds ++ gs)).all (· ≤ reachBytes) = true := hsz0
  clear hsz0 hval0
  have hW' := hW
  obtain ⟨p, q, hA0, hV, rfl, hfz, hnd⟩ := hW
  have hA : DataW.TrodAll enc Try.prog W 0 (fun _ => true) true Try.f24.params.toList args.toList ds p := hA0
  rw [Try.params24] at hA hval hsz
  obtain ⟨rfl, rfl⟩ := trodVars_none hV
  obtain ⟨v0, v1, d0, d1, p0, p1, rfl, rfl, rfl, k0, k1⟩ := trodAll_two hA
  have hw : ∀ n ∈ DataW.weightsEach Try.prog [24, 35] [d0, d1], n ≤ reachBytes := fun n hn => by simpa using List.all_eq_true.1 hsz n hn
  obtain ⟨x0, r0, e0⟩ := argGr (hval 0 24 v0 rfl rfl) k0 fun n hn => hw n (by simp [DataW.weightsEach, hn])
  obtain ⟨x1, r1, e1⟩ := argIns (hval 1 35 v1 rfl rfl) k1 fun n hn => hw n (by simp [DataW.weightsEach, hn])
  refine (call_of_FH tabOK mixed (f24 x0 e0.1 x1) (LR.cons r0 (LR.cons r1 LR.nil))).mono fun e W' ⟨he, hb⟩ => ⟨_, he, ?_⟩
  refine post_of_below laidOut hW' hb rfl rfl Try.underlying4 (fun t ht => ?_) rfl
  rw [Try.params24] at ht
  simp only [List.mem_cons, List.not_mem_nil, or_false] at ht
  rcases ht with rfl | rfl <;> exact ⟨by kernel_rfl, of_decide_eq_true (by kernel_rfl)⟩

theorem leadComes_a : (Rows.leadComesRow.inPlace == pj.inPlace 24) = true := by kernel_rfl
theorem leadComes_b : (Rows.leadComesRow.unfollowed == pj.unfollowed 24) = true := by kernel_rfl
theorem leadComes_c : (Rows.leadComesRow.recurses == pj.recurses 24) = true := by kernel_rfl
theorem leadComes_d : (Rows.leadComesRow.named == pj.varsNamed 24) = true := by kernel_rfl
theorem leadComes_e : pj.funcNamed Rows.leadComesRow.func = some 24 := by kernel_rfl

theorem leadComes_closed : joinedFacts pj 24 Try.f24 Rows.leadComesSpec Rows.leadComesRow = true :=
  joined_of (by kernel_rfl) leadComes_a leadComes_b leadComes_c leadComes_d (by kernel_rfl) (by kernel_rfl) rfl (by kernel_rfl) (by kernel_rfl)

theorem leadComes_holds : Rows.LeadComesSaid :=
  OpenClaim.holds_of_wide 24 Try.f24 rfl rfl rfl rfl rfl rfl rfl ⟨rfl, rfl, rfl, rfl, rfl⟩ rfl rfl rfl rfl rfl leadComes_e Try.func24 leadComes_closed
    (of_decide_eq_true (by kernel_rfl)) (by unfold Func.isWrapper; first | (rw [if_pos (by decide +kernel)]; kernel_rfl) | (rw [if_neg (by decide +kernel)]; exact ⟨rfl, rfl⟩))
    (fun os started H enc _ => leadComes_lifted os started H enc)

#print axioms leadComes_holds
end Go.Proofs.Ytiiogleijmcccaa

