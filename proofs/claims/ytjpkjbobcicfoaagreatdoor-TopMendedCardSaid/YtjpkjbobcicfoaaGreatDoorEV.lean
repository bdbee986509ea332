/-
  The closed facts of the rows: those of the program alone, each by itself; and how the others are put together. Conditions: none.
-/
import Derived.Test.YtjpkjbobcicfoaaGreatDoorRows
import Derived.JoinedOf
set_option linter.unusedSimpArgs false
set_option linter.unusedVariables false
namespace Go.Av
open Go.Proofs Go.Proofs.YtjpkjbobcicfoaaGreatDoor
noncomputable abbrev pj:Program:=Tryz.prog
set_option maxRecDepth 100000
theorem c2:laidOutB pj=true:=by kernel_rfl
theorem c3:mapsRowed pj=true:=by kernel_rfl
theorem c7:(pj.stops==[])=true:=by kernel_rfl
theorem c9:(pj.stopKnobs==[])=true:=by kernel_rfl
theorem c23:(false==pj.plainKeys)=true:=by kernel_rfl
theorem heard_of {P:Program} (h:(P.stops==[])=true):P.stopsHeard=true:=by
 have h1:P.stops=[]:=by simpa using h
 unfold Program.stops at h1
 have h2:(P.funcs.toList.filterMap fun fn=>(Stop.rowOf fn).map (·.name))=[]:=by
  generalize (P.funcs.toList.filterMap fun fn=>(Stop.rowOf fn).map (·.name))=l at h1
  cases l with
  |nil=>rfl
  |cons a l=>rw[List.eraseDups_cons] at h1;cases h1
 unfold Program.stopsHeard;rw[Array.all_eq_true_iff_forall_mem];intro fn hfn;rw[List.filterMap_eq_nil_iff] at h2;have:=h2 fn (by simpa using hfn)
 cases hr:Stop.rowOf fn with
 |none=>rfl
 |some r=>rw[hr] at this;cases this
theorem c25:pj.stopsHeard=true:=heard_of c7
theorem c26:pj.mayEnter=true:=by kernel_rfl
theorem c27:pj.liftsFinal=false:=by kernel_rfl
theorem c28:pj.make=some .cut:=by kernel_rfl
theorem joined_of {f:FuncId} {fn:Func} {s:ChangeSpec} {c:OpenClaim} (k1:(c.wf (OpenSpec.ofChange s) && fn.params.all (pj.readableRec ·) && namedTie pj c.named s.vars && (c.stops==[]) && (c.knobs==[]))=true)
  (k10:(c.inPlace==pj.inPlace f)=true) (k11:(c.unfollowed==pj.unfollowed f)=true) (k12:(c.recurses==pj.recurses f)=true) (k13:(c.named==pj.varsNamed f)=true)
  (k14:((c.maps==(fn.params.toList++s.plain.varTypes pj).any (pj.mapsRec ·)) && (c.ifaces==(fn.params.toList++s.plain.varTypes pj).any (pj.ifacesRec ·)) && (c.mapsOut==pj.mapsAmong fn.resultTypes.toList) &&
    (c.loops==(fn.params.toList++s.plain.varTypes pj).any (pj.loopsFrom ·)) && (c.wideKeys==(fn.params.toList++s.plain.varTypes pj++fn.resultTypes.toList).any (pj.wideKeysFrom ·)))=true)
  (k19:(s.vars.all (pj.varReadable ·) && fn.resultTypes.all (fun t=>pj.readableRec t && decide (t<pj.types.size)) && (c.ifacesOut==fn.resultTypes.toList.any (pj.ifacesRec ·)) && (c.loopsOut==fn.resultTypes.toList.any (pj.loopsFrom ·)))=true)
  (k23:c.plainKeys=false) (k24:(c.shortTexts.isNone && (c.lifted==false) && (some .cut==some c.make) && c.domain.isEmpty && (c.kinds==[]) && (c.pinned==c.pinnedBy))=true)
  (k29:((c.veiled==(fn.params.toList++s.plain.varTypes pj++fn.resultTypes.toList).any (pj.veiledRec ·)) && c.veiledFits pj fn.params.toList (fn.params.toList++s.plain.varTypes pj++fn.resultTypes.toList))=true):
  joinedFacts pj f fn s c=true:=by
 simp only[Bool.and_eq_true] at k1 k14 k19 k24 k29;obtain⟨⟨⟨⟨a1,a2⟩,a3⟩,a4⟩,a5⟩:=k1;obtain⟨⟨⟨⟨b1,b2⟩,b3⟩,b4⟩,b5⟩:=k14;obtain⟨⟨⟨d1,d2⟩,d3⟩,d4⟩:=k19;obtain⟨⟨⟨⟨⟨e1,e2⟩,e3⟩,e0⟩,e4⟩,e5⟩:=k24;obtain⟨g1,g2⟩:=k29;unfold joinedFacts;rw[a1,c2,c3,a2,a3,a4,c7,a5,c9,k10,k11,k12,k13,b1,b2,b3,b4,b5,d1,d2,d3,d4,k23,c23,e1,c25,c26,c27,c28,e2,e3,e0,if_pos rfl,e4,e5,g1,g2];rfl
end Go.Av
