/-
  The statement 'RankShows': for every input the law returns true, and the arguments read as they did. Conditions: none.
-/
import Derived.Test.YtiiogleijmcccaaD1
import Derived.Test.YtiiogleijmcccaaD2
import Derived.Test.YtiiogleijmcccaaL2
namespace Go.Proofs.Ytiiogleijmcccaa
open Go.ChangeShapes Go.WideShapes Go.ChangeAt Go.RowKit Go.Av

set_option maxRecDepth 100000 in
theorem rankShows_lifted (os : Os) (started : os.Started) (H : Type) (enc : TypeId × Value → H) :
    ReturnsInHanded {} Try.checked os 4 .any (Rows.rankShowsSpec.pre6 enc Try.prog Try.f4 Rows.rankShowsRow.domain false) (Rows.rankShowsSpec.post enc Try.prog Try.f4 false true false false) := by
  refine returnsInHanded_of_change_sized (C := Try.checked) ownK started (by kernel_rfl) Try.func4
    (ChangeSpec.witness6 (enc := enc) (C := Try.checked) false ⟨#[], #[.agg #[.int .i64 0, .int .i64 0, .int .i64 0, .slice none 0 0], .slice none 0 0, .bool false], []⟩ 8 (by kernel_rfl) (by kernel_rfl) (by kernel_rfl) (by kernel_rfl)) ?_
  intro W base args ds gs before hval0 hW hcnd hsz0 _
  have hval : ∀ (j : Nat) t v, Try.f4.params[j]? = some t → args[j]? = some v → Value.okWide Try.prog W .any base t v := hval0
  have hsz : (DataW.weightsEach Try.prog (Try.f4.params.toList ++ []) (ds ++ gs)).all (· ≤ reachBytes) = true := hsz0
  clear hsz0 hval0
  have hW' := hW
  obtain ⟨p, q, hA0, hV, rfl, hfz, hnd⟩ := hW
  have hA : DataW.TrodAll enc Try.prog W 0 (fun _ => true) true Try.f4.params.toList args.toList ds p := hA0
  rw [Try.params4] at hA hval hsz
  obtain ⟨rfl, rfl⟩ := trodVars_none hV
  obtain ⟨v0, v1, v2, d0, d1, d2, p0, p1, p2, rfl, rfl, rfl, k0, k1, k2⟩ := trodAll_three hA
  have hw : ∀ n ∈ DataW.weightsEach Try.prog [24, 25, 4] [d0, d1, d2], n ≤ reachBytes := fun n hn => by simpa using List.all_eq_true.1 hsz n hn
  obtain ⟨x0, r0, e0⟩ := argGr (hval 0 24 v0 rfl rfl) k0 fun n hn => hw n (by simp [DataW.weightsEach, hn])
  obtain ⟨x1, r1, e1⟩ := argFcs (hval 1 25 v1 rfl rfl) k1 fun n hn => hw n (by simp [DataW.weightsEach, hn])
  obtain ⟨x2, r2⟩ := argBool (hval 2 4 v2 rfl rfl)
  refine (call_of_FH tabOK mixed (f4 x0 e0.1 x1 e1.1 x2) (LR.cons r0 (LR.cons r1 (LR.cons r2 LR.nil)))).mono fun e W' ⟨he, hb⟩ => ⟨_, he, ?_⟩
  refine post_of_below laidOut hW' hb rfl rfl Try.underlying4 (fun t ht => ?_) rfl
  rw [Try.params4] at ht
  simp only [List.mem_cons, List.not_mem_nil, or_false] at ht
  rcases ht with rfl | rfl | rfl <;> exact ⟨by kernel_rfl, of_decide_eq_true (by kernel_rfl)⟩

theorem rankShows_a : (Rows.rankShowsRow.inPlace == pj.inPlace 4) = true := by kernel_rfl
theorem rankShows_b : (Rows.rankShowsRow.unfollowed == pj.unfollowed 4) = true := by kernel_rfl
theorem rankShows_c : (Rows.rankShowsRow.recurses == pj.recurses 4) = true := by kernel_rfl
theorem rankShows_d : (Rows.rankShowsRow.named == pj.varsNamed 4) = true := by kernel_rfl
theorem rankShows_e : pj.funcNamed Rows.rankShowsRow.func = some 4 := by kernel_rfl

theorem rankShows_closed : joinedFacts pj 4 Try.f4 Rows.rankShowsSpec Rows.rankShowsRow = true :=
  joined_of (by kernel_rfl) rankShows_a rankShows_b rankShows_c rankShows_d (by kernel_rfl) (by kernel_rfl) rfl (by kernel_rfl) (by kernel_rfl)

theorem rankShows_holds : Rows.RankShowsSaid :=
  OpenClaim.holds_of_wide 4 Try.f4 rfl rfl rfl rfl rfl rfl rfl ⟨rfl, rfl, rfl, rfl, rfl⟩ rfl rfl rfl rfl rfl rankShows_e Try.func4 rankShows_closed
    (of_decide_eq_true (by kernel_rfl)) (by unfold Func.isWrapper; first | (rw [if_pos (by decide +kernel)]; kernel_rfl) | (rw [if_neg (by decide +kernel)]; exact ⟨rfl, rfl⟩))
    (fun os started H enc _ => rankShows_lifted os started H enc)

#print axioms rankShows_holds
end Go.Proofs.Ytiiogleijmcccaa

