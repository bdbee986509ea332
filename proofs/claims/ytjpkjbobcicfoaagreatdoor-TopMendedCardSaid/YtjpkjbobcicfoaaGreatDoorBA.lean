/-
  The evaluator's surroundings for this program. Conditions: none.
-/
import Derived.Test.YtjpkjbobcicfoaaGreatDoorProg
import Derived.RecoverIn
import Derived.Tactics
import Derived.Tactics2
import Derived.Test.YtjpkjbobcicfoaaGreatDoorAH
set_option linter.unusedSimpArgs false
set_option linter.unusedVariables false
namespace Go.Av
open Go.Proofs
theorem names_ok:Tryz.prog.funcs.toList.all (fun fn=>fn.name != "runtime.NumGoroutine")=true:=by kernel_rfl
theorem mixed_ok:Tryz.prog.follows .mixedOrders=true:=by kernel_rfl
theorem x185:XOK Tryz.prog 185 .same:=⟨Tryz.f185,by kernel_rfl,by kernel_rfl,by kernel_rfl,by kernel_rfl,by kernel_rfl⟩
theorem x234:XOK Tryz.prog 234 .zeros:=⟨#[3],60,⟨Tryz.f234,by kernel_rfl,by kernel_rfl,by kernel_rfl,by kernel_rfl,by kernel_rfl⟩,by kernel_rfl⟩
theorem x268:XOK Tryz.prog 268 .index:=⟨Tryz.f268,by kernel_rfl,by kernel_rfl,by kernel_rfl,by kernel_rfl,by kernel_rfl⟩
theorem x276:XOK Tryz.prog 276 .count:=⟨Tryz.f276,by kernel_rfl,by kernel_rfl,by kernel_rfl,by kernel_rfl,by kernel_rfl⟩
theorem q138 (a b:Value):Quiet Tryz.prog 138 #[a,b]:=by
 intro w;have hta:(Instr.typeAssert .nilIface 20 27 true).run Tryz.prog w=.ok (.tuple #[.int .i64 0,.bool false]) w:=by kernel_rfl
 refine callsDIn_of_wpSIn (fn:=Tryz.f138) (by kernel_rfl) rfl trivial fun c₀ cs hu=>?_
 have hn:Tryz.f138.ntmps=11:=by kernel_rfl
 have hres:Tryz.f138.results=#[]:=by kernel_rfl
 apply wpSIn_seq;apply wpSIn_region;simp[wpOpsSIn,go_sem,recoverD,hu,hn,Exit.thenS,hta,Oper.about,Target.leads,wd,Fence.wide];apply wpSIn_seq;apply wpSIn_region;simp[wpOpsSIn,go_sem,Exit.thenS,Oper.about];refine wpSIn_cond (t:=false) (by simp[Act.eval,Array.replicate]) ?_;simp only[Bool.false_eq_true,if_false];refine wpSIn_of_wpIn rfl (wpIn_skip ?_);cases c₀
 simp_all [bodyPostS,results]
theorem q106 (a:Value):Quiet Tryz.prog 106 #[a]:=by
 intro w;have hta:(Instr.typeAssert .nilIface 20 211 true).run Tryz.prog w=.ok (.tuple #[.int .i64 0,.bool false]) w:=by kernel_rfl
 refine callsDIn_of_wpSIn (fn:=Tryz.f106) (by kernel_rfl) rfl trivial fun c₀ cs hu=>?_
 have hn:Tryz.f106.ntmps=10:=by kernel_rfl
 have hres:Tryz.f106.results=#[]:=by kernel_rfl
 apply wpSIn_seq;apply wpSIn_region;simp[wpOpsSIn,go_sem,recoverD,hu,hn,Exit.thenS,hta,Oper.about,Target.leads,wd,Fence.wide];apply wpSIn_seq;apply wpSIn_region;simp[wpOpsSIn,go_sem,Exit.thenS,Oper.about];refine wpSIn_cond (t:=false) (by simp[Act.eval,Array.replicate]) ?_;simp only[Bool.false_eq_true,if_false];refine wpSIn_of_wpIn rfl (wpIn_skip ?_);cases c₀
 simp_all [bodyPostS,results]
noncomputable def TT:Tr (Option TI):=Tr.ofFn 10 (mkTI Tryz.prog)
noncomputable def thP (t:Nat):Option TI:=
 match TT.get t with
 |some o=>o
 |none=>none
theorem thP_ok:TabOK Tryz.prog thP:=by
 intro t ti h;unfold thP TT at h;rcases Tr.get_ofFn 10 (mkTI Tryz.prog) t with h1|h1<;>rw[h1] at h
 ·exact mk_ok t ti h
 ·cases h
def xkP (f:Nat):Option XK:=
 bif Nat.beq f 185 then some .same else bif Nat.beq f 234 then some .zeros else bif Nat.beq f 268 then some .index else bif Nat.beq f 276 then some .count else none
def qtP (f:Nat):Bool:=Nat.beq f 138||Nat.beq f 106
abbrev Kn:=List (Nat×List AV×AV)
def knOf (f:Nat):Kn→List (List AV×AV)
 |[]=>[]
 |(g,a,r)::l=>bif Nat.beq g f then (a,r)::knOf f l else knOf f l
theorem knOf_mem {f:Nat} {a:List AV} {r:AV}:∀{l:Kn},(a,r)∈knOf f l→(f,a,r)∈l
 |[],h=>by cases h
 |(g,a',r')::l,h=>by
  unfold knOf at h
  cases hb:Nat.beq g f with
  |true=>
   have:g=f:=by simpa using hb
   subst this;rw[hb] at h;simp only[cond_true,List.mem_cons,Prod.mk.injEq] at h;rcases h with ⟨rfl,rfl⟩|h
   ·simp
   ·simp[knOf_mem h]
  |false=>
   rw[hb] at h;simp only[cond_false] at h;simp[knOf_mem h]
noncomputable def surP (K:Kn):Sur:={ Θ:=thP,fn:=fun f=>Tryz.prog.funcs[f]?,xk:=xkP,qt:=qtP,kn:=fun f=>knOf f K }
def KnOK (K:Kn):Prop:=∀e∈K,PFS Tryz.prog e.1 e.2.1 e.2.2
theorem KnOK.nil:KnOK []:=fun _ h=>by cases h
theorem KnOK.cons {e:Nat×List AV×AV} {K:Kn} (h:PFS Tryz.prog e.1 e.2.1 e.2.2) (k:KnOK K):KnOK (e::K):=fun x hx=>by
 rcases List.mem_cons.1 hx with rfl|hx
 ·exact h
 ·exact k x hx
theorem surP_ok {K:Kn} (hK:KnOK K):(surP K).OK Tryz.prog:=by
 refine⟨thP_ok,fun f fn h=>⟨h, ?_⟩,fun f k h=>?_,fun f h fn hfn=>?_,fun f ag r h=>hK (f,ag,r) (knOf_mem (l:=K) h),mixed_ok⟩
 ·have h':Tryz.prog.funcs[f]?=some fn:=h;have hm:fn∈Tryz.prog.funcs.toList:=List.mem_of_getElem? (i:=f) (by simpa using h');have:=List.all_eq_true.1 names_ok fn hm;simpa using this
 ·have h':xkP f=some k:=h;unfold xkP at h'
  cases h1:Nat.beq f 185 with
  |true=>rw[h1] at h';simp only[cond_true,Option.some.injEq] at h';subst h';have:f=185:=by simpa using h1
         subst this;exact x185
  |false=>
  rw[h1] at h';simp only[cond_false] at h'
  cases h2:Nat.beq f 234 with
  |true=>rw[h2] at h';simp only[cond_true,Option.some.injEq] at h';subst h';have:f=234:=by simpa using h2
         subst this;exact x234
  |false=>
  rw[h2] at h';simp only[cond_false] at h'
  cases h3:Nat.beq f 268 with
  |true=>rw[h3] at h';simp only[cond_true,Option.some.injEq] at h';subst h';have:f=268:=by simpa using h3
         subst this;exact x268
  |false=>
  rw[h3] at h';simp only[cond_false] at h'
  cases h4:Nat.beq f 276 with
  |true=>rw[h4] at h';simp only[cond_true,Option.some.injEq] at h';subst h';have:f=276:=by simpa using h4
         subst this;exact x276
  |false=>rw[h4] at h';cases h'
 ·have h':qtP f=true:=h;unfold qtP at h';simp only[Bool.or_eq_true,Nat.beq_eq] at h';rcases h' with rfl|rfl
  ·have hf:Tryz.prog.funcs[138]?=some Tryz.f138:=by kernel_rfl
   have e:fn=Tryz.f138:=Option.some.inj (hfn.symm.trans hf);subst e;have hn:Tryz.f138.nfree=2:=by kernel_rfl
   refine⟨by kernel_rfl,fun vs hvs=>?_⟩;rw[hn] at hvs
   match vs,hvs with
   |[a,b],_=>exact q138 a b
  ·have hf:Tryz.prog.funcs[106]?=some Tryz.f106:=by kernel_rfl
   have e:fn=Tryz.f106:=Option.some.inj (hfn.symm.trans hf);subst e;have hn:Tryz.f106.nfree=1:=by kernel_rfl
   refine⟨by kernel_rfl,fun vs hvs=>?_⟩;rw[hn] at hvs
   match vs,hvs with
   |[a],_=>exact q106 a
noncomputable def chk (K:Kn) (f:FuncId) (ag:List AV) (res:AV):Bool:=
 match (lvl (surP K) 100000 60).call f ag .nil 0 with
 |some (r,H,_)=>match rf false 64 (hpT H) r with
  |some v=>AV.beq v res
  |none=>false
 |none=>false
theorem chk_ok {K:Kn} (hK:KnOK K) {f:FuncId} {ag:List AV} {res:AV} (h:chk K f ag res=true):PFS Tryz.prog f ag res:=by
 unfold chk at h;split at h
 ·rename_i r H x hc
  split at h
  ·rename_i v hv
   have:=AV.beq_eq _ _ h;subst this;have hF:=(lvl_ok (surP_ok hK) (fuel:=100000) 60).call _ _ _ _ _ _ _ hc;exact⟨r,hpT H,x,64,hF,hv⟩
  ·cases h
 ·cases h
end Go.Av
