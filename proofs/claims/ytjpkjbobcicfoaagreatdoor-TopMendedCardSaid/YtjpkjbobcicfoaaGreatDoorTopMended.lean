/-
  The tied card 'TopMended': for every input the law returns true, and the arguments read as they did; the package-level variables that are listed start as the program's text lays them. Conditions: the listed variables, tied.
-/
import Derived.Test.YtjpkjbobcicfoaaGreatDoorCards
import Derived.Test.YtjpkjbobcicfoaaGreatDoorTie
import Derived.SevenTiedAt
import Derived.Test.YtjpkjbobcicfoaaGreatDoorEU
import Derived.Test.YtjpkjbobcicfoaaGreatDoorMX
import Derived.Test.YtjpkjbobcicfoaaGreatDoorMY
import Derived.Test.YtjpkjbobcicfoaaGreatDoorMZ
import Derived.Test.YtjpkjbobcicfoaaGreatDoorMB
set_option linter.unusedSimpArgs false
set_option linter.unusedVariables false
namespace Go.Proofs.YtjpkjbobcicfoaaGreatDoor
open Go.ChangeShapes Go.WideShapes Go.ChangeAt Go.RowKit Go.Av
set_option maxRecDepth 100000 in
theorem topMended_lifted (os:Os) (started:os.Started) (H:Type) (enc:TypeId×Value→H):
  ReturnsInHanded {} Tryz.checked os 4 .any (fun w args=>(Rows.topMendedSpec.pre enc Tryz.prog Tryz.f4 [] false w args∧laidMetH Tryz.prog Rows.topMendedRow.laid w)∧sizedMet enc Tryz.prog Tryz.f4 (OpenSpec.ofChange Rows.topMendedSpec) false w args)
   (Rows.topMendedSpec.post enc Tryz.prog Tryz.f4 false true false false):=by
 refine returnsInHanded_of_change_and (C:=Tryz.checked) (X:=fun w _=>laidMetH Tryz.prog Rows.topMendedRow.laid w) (fun _ _ _ hh h=>h.of_heap hh) ownK started (by kernel_rfl) Tryz.func4
  (ChangeSpec.witness_shaped (enc:=enc) (C:=Tryz.checked) (os:=os) (X:=fun w _=>laidMetH Tryz.prog Rows.topMendedRow.laid w) false (World.laidAll Tryz.prog os Rows.topMendedRow.laid) #[.agg #[.int .i64 0,.int .i64 0,.int .i64 0,.slice none 0 0],.slice none 0 0] 8 (World.laidAll_os _ _ _)
    (World.shaped_of_ZipB (by kernel_rfl) (by kernel_rfl)) (by kernel_rfl) (by kernel_rfl) (by kernel_rfl) (topMended_met os _)) ?_
 intro W base args ds gs before hval0 hW hcnd hsz0 hL _;have hval:∀(j:Nat) t v,Tryz.f4.params[j]?=some t→args[j]?=some v→Value.okWide Tryz.prog W .any base t v:=hval0;have hsz:(DataW.weightsEach Tryz.prog (Tryz.f4.params.toList++[]) (ds++gs)).all (·≤reachBytes)=true:=hsz0;clear hsz0 hval0;have hW':=hW;obtain⟨p,q,hA0,hV,rfl,hfz,hnd⟩:=hW;have hA:DataW.TrodAll enc Tryz.prog W 0 (fun _=>true) true Tryz.f4.params.toList args.toList ds p:=hA0;rw[Tryz.params4] at hA hval hsz;obtain⟨rfl,rfl⟩:=trodVars_none hV;obtain⟨v0,v1,d0,d1,p0,p1,rfl,rfl,rfl,k0,k1⟩:=trodAll_two hA;have hw:∀n∈DataW.weightsEach Tryz.prog [24,25] [d0,d1],n≤reachBytes:=fun n hn=>by simpa using List.all_eq_true.1 hsz n hn
 obtain⟨x0,r0,e0⟩:=argGr (hval 0 24 v0 rfl rfl) k0 fun n hn=>hw n (by simp[DataW.weightsEach,hn])
 obtain⟨x1,r1,e1⟩:=argIns (hval 1 25 v1 rfl rfl) k1 fun n hn=>hw n (by simp[DataW.weightsEach,hn])
 rw[MakeChecks.laidMetH_plain _ _ _ (by kernel_rfl)] at hL;have hgl:=glob_of (nm:= "*errors.errorString") hL (show("probate/check.errOdd",Rows.laid_probate_check_errOdd)∈Rows.topMendedRow.laid from .tail _ (.tail _ (.tail _ (.tail _ (.tail _ (.tail _ (.head _)))))));refine(call_of_FH tabOK mixed (fz4 x0 e0.1 x1) (LR.cons r0 (LR.cons r1 LR.nil)) hgl).mono fun e W' ⟨he,hb⟩=>⟨_,he, ?_⟩
 refine post_of_below laidOut hW' hb rfl rfl Tryz.underlying4 (fun t ht=>?_) rfl;rw[Tryz.params4] at ht;simp only[List.mem_cons,List.not_mem_nil,or_false] at ht;rcases ht with rfl|rfl<;>exact⟨by kernel_rfl,of_decide_eq_true (by kernel_rfl)⟩
theorem topMended_said:Rows.TopMendedSaid:=
 OpenClaim.holds_of_wide 4 Tryz.f4 rfl rfl rfl rfl rfl rfl rfl ⟨rfl,rfl,rfl,rfl,rfl⟩ rfl rfl rfl rfl rfl topMended_e Tryz.func4 topMended_closed
  (of_decide_eq_true (by kernel_rfl)) (by unfold Func.isWrapper;first|(rw[if_pos (by decide+kernel)];kernel_rfl)|(rw[if_neg (by decide+kernel)];exact⟨rfl,rfl⟩))
  (fun os started H enc _=>topMended_lifted os started H enc)
theorem topMended_card:Rows.TopMendedCardSaid:=
 Claim7.holds_tied_plain_at .later [] [.data,.data,.data,.data,.sentinel,.sentinel,.sentinel,.pinned] true (true, "9a2223c0e623d2a7255a7e90fedba5b1c317b3493a2253b8a894418ce558486a") true
  topMended_said (fun _ h=>by cases h) topMended_h1 (fun _ h=>by cases h) topMended_row_tie rfl ⟨rfl,rfl⟩ seat_main rfl
  (fun f fn hf hfn=>by
    obtain rfl:f=4:=Option.some.inj (topMended_h6.symm.trans hf)|>.symm
    obtain rfl:fn=Tryz.f4:=(Option.some.inj (Tryz.func4.symm.trans hfn)).symm
    exact⟨seat_looks,fun j t ht=>by
     rw[Tryz.params4] at ht;have hm:t∈[24,25]:=by simpa using Array.mem_of_getElem? ht
     exact(show Tryz.prog.wantsStandIn t=false by simpa using List.all_eq_true.1 topMended_h4 t hm)⟩)
  topMended_goes
#print axioms topMended_card
end Go.Proofs.YtjpkjbobcicfoaaGreatDoor
