/-
  The statement 'SpanOver': for every input the law returns true, and the arguments read as they did. Conditions: none.
-/
import Derived.Test.YtiiogleijmcccaaD1
import Derived.Test.YtiiogleijmcccaaD2
import Derived.Test.YtiiogleijmcccaaXD
namespace Go.Proofs.Ytiiogleijmcccaa
open Go.ChangeShapes Go.WideShapes Go.ChangeAt Go.RowKit Go.Av

set_option maxRecDepth 100000 in
theorem spanOver_lifted (os : Os) (started : os.Started) (H : Type) (enc : TypeId × Value → H) :
    ReturnsInHanded {} Try.checked os 22 .any (Rows.spanOverSpec.pre6 enc Try.prog Try.f22 Rows.spanOverRow.domain false) (Rows.spanOverSpec.post enc Try.prog Try.f22 false true false false) := by
  refine returnsInHanded_of_change_sized (C := Try.checked) ownK started (by kernel_rfl) Try.func22
    (ChangeSpec.witness6 (enc := enc) (C := Try.checked) false ⟨#[], #[.agg #[.int .i64 0, .int .i64 0, .int .i64 0, .slice none 0 0], .slice none 0 0, .int .u8 0], []⟩ 8 (by kernel_rfl) (by kernel_rfl) (by kernel_rfl) (by kernel_rfl)) ?_
  intro W base args ds gs before hval0 hW hcnd hsz0 _
  have hval : ∀ (j : Nat) t v, Try.f22.params[j]? = some t → args[j]? = some v → Value.okWide Try.prog W .any base t v := hval0
  have hsz : (DataW.weightsEach Try.prog (Try.f22.params.toList ++ []) (ds ++ gs)).all (· ≤ reachBytes) = true := hsz0
  clear hsz0 hval0
  have hW' := hW
  obtain ⟨p, q, hA0, hV, rfl, hfz, hnd⟩ := hW
  have hA : DataW.TrodAll enc Try.prog W 0 (fun _ => true) true Try.f22.params.toList args.toList ds p := hA0
  rw [Try.params22] at hA hval hsz
  obtain ⟨rfl, rfl⟩ := trodVars_none hV
  obtain ⟨v0, v1, v2, d0, d1, d2, p0, p1, p2, rfl, rfl, rfl, k0, k1, k2⟩ := trodAll_three hA
  have hw : ∀ n ∈ DataW.weightsEach Try.prog [24, 35, 5] [d0, d1, d2], n ≤ reachBytes := fun n hn => by simpa using List.all_eq_true.1 hsz n hn
  obtain ⟨x0, r0, e0⟩ := argGr (hval 0 24 v0 rfl rfl) k0 fun n hn => hw n (by simp [DataW.weightsEach, hn])
  obtain ⟨x1, r1, e1⟩ := argIns (hval 1 35 v1 rfl rfl) k1 fun n hn => hw n (by simp [DataW.weightsEach, hn])
  obtain ⟨x2, r2, e2⟩ := argU8 (hval 2 5 v2 rfl rfl) k2
  refine (call_of_FH tabOK mixed (f22' x0 e0.1 x1 x2 e2) (LR.cons r0 (LR.cons r1 (LR.cons r2 LR.nil)))).mono fun e W' ⟨he, hb⟩ => ⟨_, he, ?_⟩
  refine post_of_below laidOut hW' hb rfl rfl Try.underlying4 (fun t ht => ?_) rfl
  rw [Try.params22] at ht
  simp only [List.mem_cons, List.not_mem_nil, or_false] at ht
  rcases ht with rfl | rfl | rfl <;> exact ⟨by kernel_rfl, of_decide_eq_true (by kernel_rfl)⟩

theorem spanOver_a : (Rows.spanOverRow.inPlace == pj.inPlace 22) = true := by kernel_rfl
theorem spanOver_b : (Rows.spanOverRow.unfollowed == pj.unfollowed 22) = true := by kernel_rfl
theorem spanOver_c : (Rows.spanOverRow.recurses == pj.recurses 22) = true := by kernel_rfl
theorem spanOver_d : (Rows.spanOverRow.named == pj.varsNamed 22) = true := by kernel_rfl
theorem spanOver_e : pj.funcNamed Rows.spanOverRow.func = some 22 := by kernel_rfl

theorem spanOver_closed : joinedFacts pj 22 Try.f22 Rows.spanOverSpec Rows.spanOverRow = true :=
  joined_of (by kernel_rfl) spanOver_a spanOver_b spanOver_c spanOver_d (by kernel_rfl) (by kernel_rfl) rfl (by kernel_rfl) (by kernel_rfl)

theorem spanOver_holds : Rows.SpanOverSaid :=
  OpenClaim.holds_of_wide 22 Try.f22 rfl rfl rfl rfl rfl rfl rfl ⟨rfl, rfl, rfl, rfl, rfl⟩ rfl rfl rfl rfl rfl spanOver_e Try.func22 spanOver_closed
    (of_decide_eq_true (by kernel_rfl)) (by unfold Func.isWrapper; first | (rw [if_pos (by decide +kernel)]; kernel_rfl) | (rw [if_neg (by decide +kernel)]; exact ⟨rfl, rfl⟩))
    (fun os started H enc _ => spanOver_lifted os started H enc)

#print axioms spanOver_holds
end Go.Proofs.Ytiiogleijmcccaa

