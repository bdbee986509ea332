/-
  The tied card 'TopLeast': for every input the law returns true, and the arguments read as they did; the package-level variables that are listed start as the program's text lays them. Conditions: the listed variables, tied.
-/
import Derived.Test.YtjpkjbobcicfoaaGreatDoorCards
import Derived.Test.YtjpkjbobcicfoaaGreatDoorTie
import Derived.SevenTiedAt
import Derived.Test.YtjpkjbobcicfoaaGreatDoorEU
import Derived.Test.YtjpkjbobcicfoaaGreatDoorEX
import Derived.Test.YtjpkjbobcicfoaaGreatDoorEY
import Derived.Test.YtjpkjbobcicfoaaGreatDoorEZ
import Derived.Test.YtjpkjbobcicfoaaGreatDoorET
set_option linter.unusedSimpArgs false
set_option linter.unusedVariables false
namespace Go.Proofs.YtjpkjbobcicfoaaGreatDoor
open Go.ChangeShapes Go.WideShapes Go.ChangeAt Go.RowKit Go.Av
set_option maxRecDepth 100000 in
theorem topLeast_lifted (os : Os) (started : os.Started) (H : Type) (enc : TypeId × Value → H) :
    ReturnsInHanded {} Tryz.checked os 3 .any (fun w args => (Rows.topLeastSpec.pre enc Tryz.prog Tryz.f3 [] false w args ∧ laidMetH Tryz.prog Rows.topLeastRow.laid w) ∧ sizedMet enc Tryz.prog Tryz.f3 (OpenSpec.ofChange Rows.topLeastSpec) false w args)
      (Rows.topLeastSpec.post enc Tryz.prog Tryz.f3 false true false false) := by
  refine returnsInHanded_of_change_and (C := Tryz.checked) (X := fun w _ => laidMetH Tryz.prog Rows.topLeastRow.laid w) (fun _ _ _ hh h => h.of_heap hh) ownK started (by kernel_rfl) Tryz.func3
    (ChangeSpec.witness_shaped (enc := enc) (C := Tryz.checked) (os := os) (X := fun w _ => laidMetH Tryz.prog Rows.topLeastRow.laid w) false (World.laidAll Tryz.prog os Rows.topLeastRow.laid) #[.agg #[.int .i64 0, .int .i64 0, .int .i64 0, .slice none 0 0], .slice none 0 0, .slice none 0 0] 8 (World.laidAll_os _ _ _)
      (World.shaped_of_ZipB (by kernel_rfl) (by kernel_rfl)) (by kernel_rfl) (by kernel_rfl) (by kernel_rfl) (topLeast_met os _)) ?_
  intro W base args ds gs before hval0 hW hcnd hsz0 hL _
  have hval : ∀ (j : Nat) t v, Tryz.f3.params[j]? = some t → args[j]? = some v → Value.okWide Tryz.prog W .any base t v := hval0
  have hsz : (DataW.weightsEach Tryz.prog (Tryz.f3.params.toList ++ []) (ds ++ gs)).all (· ≤ reachBytes) = true := hsz0
  clear hsz0 hval0
  have hW' := hW
  obtain ⟨p, q, hA0, hV, rfl, hfz, hnd⟩ := hW
  have hA : DataW.TrodAll enc Tryz.prog W 0 (fun _ => true) true Tryz.f3.params.toList args.toList ds p := hA0
  rw [Tryz.params3] at hA hval hsz
  obtain ⟨rfl, rfl⟩ := trodVars_none hV
  obtain ⟨v0, v1, v2, d0, d1, d2, p0, p1, p2, rfl, rfl, rfl, k0, k1, k2⟩ := trodAll_three hA
  have hw : ∀ n ∈ DataW.weightsEach Tryz.prog [24, 25, 25] [d0, d1, d2], n ≤ reachBytes := fun n hn => by simpa using List.all_eq_true.1 hsz n hn
  obtain ⟨x0, r0, e0⟩ := argGr (hval 0 24 v0 rfl rfl) k0 fun n hn => hw n (by simp [DataW.weightsEach, hn])
  obtain ⟨x1, r1, e1⟩ := argIns (hval 1 25 v1 rfl rfl) k1 fun n hn => hw n (by simp [DataW.weightsEach, hn])
  obtain ⟨x2, r2, e2⟩ := argIns (hval 2 25 v2 rfl rfl) k2 fun n hn => hw n (by simp [DataW.weightsEach, hn])
  rw [MakeChecks.laidMetH_plain _ _ _ (by kernel_rfl)] at hL
  have hgl := glob_of (nm := "*errors.errorString") hL (show ("probate/check.errOdd", Rows.laid_probate_check_errOdd) ∈ Rows.topLeastRow.laid from .tail _ (.tail _ (.tail _ (.tail _ (.tail _ (.tail _ (.head _)))))))
  refine (call_of_FH tabOK mixed (fz3 x0 e0.1 x1 x2 e2.1) (LR.cons r0 (LR.cons r1 (LR.cons r2 LR.nil))) hgl).mono fun e W' ⟨he, hb⟩ => ⟨_, he, ?_⟩
  refine post_of_below laidOut hW' hb rfl rfl Tryz.underlying4 (fun t ht => ?_) rfl
  rw [Tryz.params3] at ht
  simp only [List.mem_cons, List.not_mem_nil, or_false] at ht
  rcases ht with rfl | rfl | rfl <;> exact ⟨by kernel_rfl, of_decide_eq_true (by kernel_rfl)⟩
theorem topLeast_said : Rows.TopLeastSaid :=
  OpenClaim.holds_of_wide 3 Tryz.f3 rfl rfl rfl rfl rfl rfl rfl ⟨rfl, rfl, rfl, rfl, rfl⟩ rfl rfl rfl rfl rfl topLeast_e Tryz.func3 topLeast_closed
    (of_decide_eq_true (by kernel_rfl)) (by unfold Func.isWrapper; first | (rw [if_pos (by decide +kernel)]; kernel_rfl) | (rw [if_neg (by decide +kernel)]; exact ⟨rfl, rfl⟩))
    (fun os started H enc _ => topLeast_lifted os started H enc)
theorem topLeast_card : Rows.TopLeastCardSaid :=
  Claim7.holds_tied_plain_at .later [] [.data, .data, .data, .data, .sentinel, .sentinel, .sentinel, .pinned] true (true, "9a2223c0e623d2a7255a7e90fedba5b1c317b3493a2253b8a894418ce558486a") true
    topLeast_said (fun _ h => by cases h) topLeast_h1 (fun _ h => by cases h) topLeast_row_tie rfl ⟨rfl, rfl⟩ seat_main rfl
    (fun f fn hf hfn => by
      obtain rfl : f = 3 := Option.some.inj (topLeast_h6.symm.trans hf) |>.symm
      obtain rfl : fn = Tryz.f3 := (Option.some.inj (Tryz.func3.symm.trans hfn)).symm
      exact ⟨seat_looks, fun j t ht => by
        rw [Tryz.params3] at ht
        have hm : t ∈ [24, 25, 25] := by simpa using Array.mem_of_getElem? ht
        exact (show Tryz.prog.wantsStandIn t = false by simpa using List.all_eq_true.1 topLeast_h4 t hm)⟩)
    topLeast_goes
#print axioms topLeast_card
end Go.Proofs.YtjpkjbobcicfoaaGreatDoor
