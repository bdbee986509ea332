/-
  The statement 'SpanTells': for every input the law returns true, and the arguments read as they did. Conditions: none.
-/
import Derived.Test.YtiiogleijmcccaaD1
import Derived.Test.YtiiogleijmcccaaD2
import Derived.Test.YtiiogleijmcccaaY6
namespace Go.Proofs.Ytiiogleijmcccaa
open Go.ChangeShapes Go.WideShapes Go.ChangeAt Go.RowKit Go.Av

set_option maxRecDepth 100000 in
theorem spanTells_lifted (os : Os) (started : os.Started) (H : Type) (enc : TypeId × Value → H) :
    ReturnsInHanded {} Try.checked os 20 .any (Rows.spanTellsSpec.pre6 enc Try.prog Try.f20 Rows.spanTellsRow.domain false) (Rows.spanTellsSpec.post enc Try.prog Try.f20 false true false false) := by
  refine returnsInHanded_of_change_sized (C := Try.checked) ownK started (by kernel_rfl) Try.func20
    (ChangeSpec.witness6 (enc := enc) (C := Try.checked) false ⟨#[], #[.agg #[.int .i64 0, .int .i64 0, .int .i64 0, .slice none 0 0], .slice none 0 0], []⟩ 8 (by kernel_rfl) (by kernel_rfl) (by kernel_rfl) (by kernel_rfl)) ?_
  intro W base args ds gs before hval0 hW hcnd hsz0 _
  have hval : ∀ (j : Nat) t v, Try.f20.params[j]? = some t → args[j]? = some v → Value.okWide Try.prog W .any base t v := hval0
  have hsz : (DataW.weightsEach Try.prog (Try.f20.params.toList ++ []) (ds ++ gs)).all (· ≤ reachBytes) = true := hsz0
  clear hsz0 hval0
  have hW' := hW
  obtain ⟨p, q, hA0, hV, rfl, hfz, hnd⟩ := hW
  have hA : DataW.TrodAll enc Try.prog W 0 (fun _ => true) true Try.f20.params.toList args.toList ds p := hA0
  rw [Try.params20] at hA hval hsz
  obtain ⟨rfl, rfl⟩ := trodVars_none hV
  obtain ⟨v0, v1, d0, d1, p0, p1, rfl, rfl, rfl, k0, k1⟩ := trodAll_two hA
  have hw : ∀ n ∈ DataW.weightsEach Try.prog [24, 35] [d0, d1], n ≤ reachBytes := fun n hn => by simpa using List.all_eq_true.1 hsz n hn
  obtain ⟨x0, r0, e0⟩ := argGr (hval 0 24 v0 rfl rfl) k0 fun n hn => hw n (by simp [DataW.weightsEach, hn])
  obtain ⟨x1, r1, e1⟩ := argIns (hval 1 35 v1 rfl rfl) k1 fun n hn => hw n (by simp [DataW.weightsEach, hn])
  refine (call_of_FH tabOK mixed (f20 x0 e0.1 x1) (LR.cons r0 (LR.cons r1 LR.nil))).mono fun e W' ⟨he, hb⟩ => ⟨_, he, ?_⟩
  refine post_of_below laidOut hW' hb rfl rfl Try.underlying4 (fun t ht => ?_) rfl
  rw [Try.params20] at ht
  simp only [List.mem_cons, List.not_mem_nil, or_false] at ht
  rcases ht with rfl | rfl <;> exact ⟨by kernel_rfl, of_decide_eq_true (by kernel_rfl)⟩

theorem spanTells_a : (Rows.spanTellsRow.inPlace == pj.inPlace 20) = true := by kernel_rfl
theorem spanTells_b : (Rows.spanTellsRow.unfollowed == pj.unfollowed 20) = true := by kernel_rfl
theorem spanTells_c : (Rows.spanTellsRow.recurses == pj.recurses 20) = true := by kernel_rfl
theorem spanTells_d : (Rows.spanTellsRow.named == pj.varsNamed 20) = true := by kernel_rfl
theorem spanTells_e : pj.funcNamed Rows.spanTellsRow.func = some 20 := by kernel_rfl

theorem spanTells_closed : joinedFacts pj 20 Try.f20 Rows.spanTellsSpec Rows.spanTellsRow = true :=
  joined_of (by kernel_rfl) spanTells_a spanTells_b spanTells_c spanTells_d (by kernel_rfl) (by kernel_rfl) rfl (by kernel_rfl) (by kernel_rfl)

theorem spanTells_holds : Rows.SpanTellsSaid :=
  OpenClaim.holds_of_wide 20 Try.f20 rfl rfl rfl rfl rfl rfl rfl ⟨rfl, rfl, rfl, rfl, rfl⟩ rfl rfl rfl rfl rfl spanTells_e Try.func20 spanTells_closed
    (of_decide_eq_true (by kernel_rfl)) (by unfold Func.isWrapper; first | (rw [if_pos (by decide +kernel)]; kernel_rfl) | (rw [if_neg (by decide +kernel)]; exact ⟨rfl, rfl⟩))
    (fun os started H enc _ => spanTells_lifted os started H enc)

#print axioms spanTells_holds
end Go.Proofs.Ytiiogleijmcccaa

