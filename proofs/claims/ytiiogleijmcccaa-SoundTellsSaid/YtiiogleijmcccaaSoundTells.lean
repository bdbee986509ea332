/-
  The statement 'SoundTells': for every input the law returns true, and the arguments read as they did. Conditions: none.
-/
import Derived.Test.YtiiogleijmcccaaD1
import Derived.Test.YtiiogleijmcccaaD2
import Derived.Test.YtiiogleijmcccaaV4
namespace Go.Proofs.Ytiiogleijmcccaa
open Go.ChangeShapes Go.WideShapes Go.ChangeAt Go.RowKit Go.Av

set_option maxRecDepth 100000 in
theorem soundTells_lifted (os : Os) (started : os.Started) (H : Type) (enc : TypeId × Value → H) :
    ReturnsInHanded {} Try.checked os 18 .any (Rows.soundTellsSpec.pre6 enc Try.prog Try.f18 Rows.soundTellsRow.domain false) (Rows.soundTellsSpec.post enc Try.prog Try.f18 false true false false) := by
  refine returnsInHanded_of_change_sized (C := Try.checked) ownK started (by kernel_rfl) Try.func18
    (ChangeSpec.witness6 (enc := enc) (C := Try.checked) false ⟨#[], #[.agg #[.int .i64 0, .int .i64 0, .int .i64 0, .slice none 0 0]], []⟩ 8 (by kernel_rfl) (by kernel_rfl) (by kernel_rfl) (by kernel_rfl)) ?_
  intro W base args ds gs before hval0 hW hcnd hsz0 _
  have hval : ∀ (j : Nat) t v, Try.f18.params[j]? = some t → args[j]? = some v → Value.okWide Try.prog W .any base t v := hval0
  have hsz : (DataW.weightsEach Try.prog (Try.f18.params.toList ++ []) (ds ++ gs)).all (· ≤ reachBytes) = true := hsz0
  clear hsz0 hval0
  have hW' := hW
  obtain ⟨p, q, hA0, hV, rfl, hfz, hnd⟩ := hW
  have hA : DataW.TrodAll enc Try.prog W 0 (fun _ => true) true Try.f18.params.toList args.toList ds p := hA0
  rw [Try.params18] at hA hval hsz
  obtain ⟨rfl, rfl⟩ := trodVars_none hV
  obtain ⟨v0, d0, rfl, rfl, k0⟩ := trodAll_one hA
  have hw : ∀ n ∈ DataW.weightsEach Try.prog [24] [d0], n ≤ reachBytes := fun n hn => by simpa using List.all_eq_true.1 hsz n hn
  obtain ⟨x0, r0, e0⟩ := argGr (hval 0 24 v0 rfl rfl) k0 fun n hn => hw n (by simp [DataW.weightsEach, hn])
  refine (call_of_FH tabOK mixed (f18 x0 e0.1) (LR.cons r0 LR.nil)).mono fun e W' ⟨he, hb⟩ => ⟨_, he, ?_⟩
  refine post_of_below laidOut hW' hb rfl rfl Try.underlying4 (fun t ht => ?_) rfl
  rw [Try.params18] at ht
  simp only [List.mem_cons, List.not_mem_nil, or_false] at ht
  rcases ht with rfl <;> exact ⟨by kernel_rfl, of_decide_eq_true (by kernel_rfl)⟩

theorem soundTells_a : (Rows.soundTellsRow.inPlace == pj.inPlace 18) = true := by kernel_rfl
theorem soundTells_b : (Rows.soundTellsRow.unfollowed == pj.unfollowed 18) = true := by kernel_rfl
theorem soundTells_c : (Rows.soundTellsRow.recurses == pj.recurses 18) = true := by kernel_rfl
theorem soundTells_d : (Rows.soundTellsRow.named == pj.varsNamed 18) = true := by kernel_rfl
theorem soundTells_e : pj.funcNamed Rows.soundTellsRow.func = some 18 := by kernel_rfl

theorem soundTells_closed : joinedFacts pj 18 Try.f18 Rows.soundTellsSpec Rows.soundTellsRow = true :=
  joined_of (by kernel_rfl) soundTells_a soundTells_b soundTells_c soundTells_d (by kernel_rfl) (by kernel_rfl) rfl (by kernel_rfl) (by kernel_rfl)

theorem soundTells_holds : Rows.SoundTellsSaid :=
  OpenClaim.holds_of_wide 18 Try.f18 rfl rfl rfl rfl rfl rfl rfl ⟨rfl, rfl, rfl, rfl, rfl⟩ rfl rfl rfl rfl rfl soundTells_e Try.func18 soundTells_closed
    (of_decide_eq_true (by kernel_rfl)) (by unfold Func.isWrapper; first | (rw [if_pos (by decide +kernel)]; kernel_rfl) | (rw [if_neg (by decide +kernel)]; exact ⟨rfl, rfl⟩))
    (fun os started H enc _ => soundTells_lifted os started H enc)

#print axioms soundTells_holds
end Go.Proofs.Ytiiogleijmcccaa

