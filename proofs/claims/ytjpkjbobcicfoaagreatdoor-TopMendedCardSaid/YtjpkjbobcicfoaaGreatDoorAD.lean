/-
  Calls; regions in the text's order and in any other; code; the main theorem; the types' table; rules for walking. Conditions: none.
-/
import Derived.Test.YtjpkjbobcicfoaaGreatDoorAC
set_option linter.unusedSimpArgs false
set_option linter.unusedVariables false
namespace Go.Av
section
variable {P:Program} {w:World} {S F:Nat→Prop} {m:Pm} {g:Heap} {Θ:Tab}
theorem call_enter {o:Oper} {t:Fr} {a:Act} {cl:Call} {f:Operand} {k:FuncId} {caps as:List AV} (hk:FnIn P k) (hop:o.op=.call cl) (hc:cl.callee=.value f) (hf:ev t f=some (.fn k caps)) (ha:evs t cl.args.toList=some as)
  (hev:∀x∈o.op.operands,EV w S m t a x):∃vs,LR w S m (as++caps) vs∧(execOp a.eval o).run P w=.ok (.enter k vs.toArray) w:=by
 obtain⟨fn,hfn,hb,hn⟩:=hk;have hops:o.op.operands=#[f]++cl.args:=by rw[hop];simp[Op.operands,Call.operands,hc]
 have hL:=evs_ok (w:=w) (S:=S) (m:=m) (a:=a) (fun x hx=>hev x (by rw[hops];simp;exact .inr (by simpa using hx))) ha;have hF:=hev f (by rw[hops];simp) _ hf;generalize hfv:a.eval f=fv at hF
 cases hF with
 |fn _ _ vs hl hr=>
 refine⟨cl.args.toList.map a.eval++vs,hL.append ⟨hl,hr⟩, ?_⟩;have hargs:cl.args.map a.eval++(⟨vs⟩:Array Value)=(cl.args.toList.map a.eval++vs).toArray:=by apply Array.ext';simp
 have hb':fn.body.isNone=false:=by cases hbb:fn.body<;>simp_all
 have hn':(fn.name== "runtime.NumGoroutine")=false:=by simpa using hn
 obtain⟨dst,op,type,pos,after,guard⟩:=o;simp only at hop;subst hop;simp only[execOp,resolve,hc,hfv,Deferred.ofValue,Sem.run_bind,Sem.run_pure,Result.andThen_ok,invoke,callFunc,program,Sem.run,hfn,hn',hb',Bool.false_eq_true,if_false];simp[hargs]
theorem op_callH {N:Nat} {ops:Array Oper} {n0 i:Nat} {t:Fr} {h:Heap} {x:Nat} {o:Oper} {cl:Call} {f:Operand} {k:FuncId} {caps as:List AV} {res:AV} {h':Heap} {x':Nat}
  (ho:ops[i]?=some o) (hg:gd ops t o=some true) (hd:inN N o.dst=true) (hop:o.op=.call cl) (hc:cl.callee=.value f) (hf:ev t f=some (.fn k caps)) (ha:evs t cl.args.toList=some as)
  (hb:FnS P k (as++caps) h x res h' x'):OpS P N ops n0 i ⟨t,h,x⟩ .W ⟨put t o.dst res,h',x'⟩:=by
 obtain⟨⟨hx',hres,hfree⟩,hk,hb⟩:=hb;refine⟨o,res,[],ho,hd,rfl,hx',fun hc=>(by cases hc),(fun hc=>by cases hc),(fun _ _ hc=>by cases hc),(fun _ hc=>by cases hc),(fun _ _ hc=>by cases hc),fun b _ hb hh=>hres b hb hh,fun hf _ b hb=>hfree hf b hb,fun ro w S F m a g hr hag _ hl hs hx hfr hlt Q K hK=>?_⟩;refine wpOp_of ho (gd_wanted hg hl) (fun c hc=>by rw[hc] at hop;cases hop) ?_;obtain⟨vs,hL,hrun⟩:=call_enter (P:=P) hk hop hc hf ha (EV.looks hr.glob hl);have hh:∀b o p,m b=some p→h b=some o→g b=some o:=fun b o p hm hb=>hag b o p (by simp[Cls.needs]) hm hb
 rw[hrun,Oper.uponIn_enter];refine⟨wd_depth ro 0,callsIn_wd ?_⟩;refine(hb w S _ m vs hfr (hr.under hh) hL (hx rfl)).mono fun e w' he=>?_
 obtain⟨v,S',m',rfl,hst,hv,hrel⟩:=he
 exact hK v w' S' m' (hst.ext.mono fun k hk=>hk.imp id .inl) hst.grow hst.new hst.le (fun hc=>by cases hc) (fun _=>⟨fun b hb _=>hst.old b hb,hst.free⟩) (fun hc=>by cases hc) hv (fun hc=>by cases hc)
  (fun _=>hr.over hrel hst.ext hst.grow hst.new hst.le)
theorem frozen_call {k:FuncId} {args args':List AV} {vs:List Value} {h:Heap} {res:AV} {h1:Heap} {x1 d:Nat} (live:Bool) (hr:Rel w S F m g) (hL:LR w S m args vs)
  (hag:live=true→∀b o p,m b=some p→h b=some o→g b=some o)
  (hf:rfs true d (if live then h else h0) args=some args') (hb:FnS P k args' h0 0 res h1 x1):
  Calls P k vs.toArray w fun e w'=>∃v Sc mc,e=.returned v∧Ext (fun k=>k<w.heap.size) w w'∧VR w' Sc mc res v∧Rel w' Sc (fun k=>k<w.heap.size) mc h1∧
   (∀k,Sc k→(live=false∧S k)∨(live=true∧k<w.heap.size)∨(w.heap.size≤k∧k<w'.heap.size))∧(∀b o p,h1 b=some o→mc b=some p→w.heap.size≤p.blk∧p.blk<w'.heap.size):=by
 obtain⟨_,_,hb⟩:=hb
 let Sc:Nat→Prop:=fun k=>if live then k<w.heap.size else S k
 have hcont:∀b o p,(if live then h else h0) b=some o→m b=some p→CR w S m p o:=by
  intro b o p hb hm
  cases live with
  |false=>simp[h0] at hb
  |true=>exact hr.content b o p (hag rfl b o p hm (by simpa using hb)) hm
 have hL':=(rf_all true _ hcont d).2.1 _ _ _ hf hL
 have hsub:∀k,SF true S (if live then h else h0) m k→Sc k:=by
  intro k hk
  cases live with
  |false=>
   rcases hk with ⟨_,hk⟩|⟨b,o,p,hb,_⟩
   ·simpa[Sc] using hk
   ·simp[h0] at hb
  |true=>
   rcases hk with ⟨_,hk⟩|⟨b,o,p,hb,hm,rfl⟩
   ·simpa[Sc] using hr.inS k hk
   ·simpa[Sc] using hr.inm b p hm
 have hScs:∀k,Sc k→k<w.heap.size:=by
  intro k hk
  cases live with
  |false=>exact hr.inS k (by simpa[Sc] using hk)
  |true=>simpa[Sc] using hk
 have hr0:Rel w Sc (fun k=>k<w.heap.size) (fun _=>none) h0:=
  ⟨fun b o p hb=>by simp[h0] at hb,fun b₁ b₂ o₁ o₂ p₁ p₂ hb=>by simp[h0] at hb,fun b o p hb=>by simp[h0] at hb,hScs,fun k hk=>hk,(fun b p hb=>by cases hb),fun k a ha=>(hr.glob k a ha).mono (Ext.refl _ _) (fun k hk=>by cases live with|false=>simpa[Sc] using hk|true=>simpa[Sc] using hr.inS k hk) (fun _ _ h=>h)⟩
 refine(hb w Sc (fun k=>k<w.heap.size) (fun _=>none) vs (fun _ _=>rfl) hr0 (hL'.mono (Ext.refl _ _) hsub (fun _ _ h=>h)) (fun _ _=>rfl)).mono fun e w' he=>?_
 obtain⟨v,S',m',he,hst,hv,hrel⟩:=he;refine⟨v,S',m',he,hst.ext.mono (fun k hk=> .inr hk),hv,hrel,fun k hk=>?_,fun b o p hb hm=>?_⟩
 ·rcases hst.new k hk with h2|h2
  ·cases live with
   |false=>exact .inl ⟨rfl,by simpa[Sc] using h2⟩
   |true=>exact .inr (.inl ⟨rfl,by simpa[Sc] using h2⟩)
  ·exact .inr (.inr ⟨h2,hrel.inS k hk⟩)
 ·have:=(hrel.apart b o p hb hm).2;exact⟨by omega,hrel.inm b p hm⟩
theorem Rel.behind (hr:Rel w S F m g) {w':World} (he:Ext (fun k=>k<w.heap.size) w w') (X:Nat→Prop):
  Rel w' (fun k=>S k∨(w.heap.size≤k∧k<w'.heap.size∧¬X k)) F m g:=
 ⟨fun b o p hb hm=>(hr.content b o p hb hm).mono (he.mono hr.inS) (fun _ h=> .inl h) (fun _ _ h=>h) (he.same _ (hr.inm b p hm)),hr.disj,
  fun b o p hb hm=>⟨fun hk=>hk.elim (hr.apart b o p hb hm).1 (fun hk=>by have:=hr.inm b p hm;omega),(hr.apart b o p hb hm).2⟩,
  fun k hk=>hk.elim (fun h=>Nat.lt_of_lt_of_le (hr.inS k h) he.size) (fun h=>h.2.1),fun k hk=>Nat.lt_of_lt_of_le (hr.inF k hk) he.size,fun b p hm=>Nat.lt_of_lt_of_le (hr.inm b p hm) he.size,fun k a ha=>(hr.glob k a ha).mono (he.mono hr.inS) (fun _ h=> .inl h) (fun _ _ h=>h)⟩
theorem op_callP {N:Nat} {ops:Array Oper} {n0 i:Nat} {t:Fr} {h:Heap} {x:Nat} {o:Oper} {cl:Call} {f:Operand} {k:FuncId} {caps as as':List AV} {res res':AV} {h1:Heap} {x1 d d':Nat} (live:Bool)
  (ho:ops[i]?=some o) (hg:gd ops t o=some true) (hd:inN N o.dst=true) (hop:o.op=.call cl) (hc:cl.callee=.value f) (hf:ev t f=some (.fn k caps)) (ha:evs t cl.args.toList=some as)
  (hrf:rfs true d (if live then h else h0) (as++caps)=some as') (hb:FnS P k as' h0 0 res h1 x1) (hrf':rf (!live) d' h1 res=some res'):
  OpS P N ops n0 i ⟨t,h,x⟩ (if live then .Q else .L) ⟨put t o.dst res',h,x⟩:=by
 have hk:=hb.2.1;have hnw:(if live then Cls.Q else Cls.L).w=false:=by cases live<;>rfl
 refine⟨o,res',[],ho,hd,rfl,Nat.le_refl _,fun _=>⟨rfl,rfl,fun _ h=>by cases h⟩,fun _=>rfl,(fun _ _ h=>by cases live<;>cases h),(fun _ h=>by cases live<;>cases h),(fun _ _ h=>by cases live<;>cases h),fun _ _ _ h=>h,fun h _=>h,fun ro w S F m a g hr hag _ hl hs hx hfr hlt Q K hK=>?_⟩;refine wpOp_of ho (gd_wanted hg hl) (fun c hc=>by rw[hc] at hop;cases hop) ?_;obtain⟨vs,hL,hrun⟩:=call_enter (P:=P) hk hop hc hf ha (EV.looks hr.glob hl);rw[hrun,Oper.uponIn_enter];refine⟨wd_depth ro 0,callsIn_wd ?_⟩;refine(frozen_call live hr hL (fun hlv b o p hm hb=>hag b o p (by rw[hlv];simp[Cls.needs]) hm hb) hrf hb).mono fun e w' he=>?_
 obtain⟨v,Sc,mc,rfl,hext,hv,hrel,hSc,hlive⟩:=he;have hres:=(rf_all (!live) h1 hrel.content d').1 _ _ _ hrf' hv
 refine hK v w' _ m (hext.mono fun k hk=>hk.elim (hr.inS k) (hr.inF k)) (fun k hk=> .inl hk) (fun k hk=>hk.imp id (fun h=>h.1)) (fun _ _ h=>h) (fun _ _ _=>rfl) (fun hc=>by rw[hnw] at hc;cases hc) (fun _ _ h=>by cases h)
  (VR.up (hres.mono (Ext.refl _ _) (fun k hk=>?_) (fun _ _ h=>h))) (fun _=>hr.behind hext (fun _=>False)) (fun hc=>by rw[hnw] at hc;cases hc)
 rcases hk with ⟨hfr,hk⟩|⟨b,o,p,hb,hm,rfl⟩
 ·rcases hSc k hk with ⟨_,h2⟩|⟨h2,_⟩|h2
  ·exact .inl h2
  ·rw[h2] at hfr;simp at hfr
  ·exact .inr ⟨h2.1,h2.2,fun h=>h⟩
 ·exact .inr ⟨(hlive b o p hb hm).1,(hlive b o p hb hm).2,fun h=>h⟩
theorem op_callT {N:Nat} {ops:Array Oper} {n0 i:Nat} {t:Fr} {h:Heap} {x:Nat} {o:Oper} {cl:Call} {f:Operand} {k:FuncId} {caps as as':List AV} {b len sz:Nat} {es es':List (List AV)} {h1:Heap} {x1 d d':Nat} (live:Bool)
  (ho:ops[i]?=some o) (hg:gd ops t o=some true) (hd:inN N o.dst=true) (hop:o.op=.call cl) (hc:cl.callee=.value f) (hf:ev t f=some (.fn k caps)) (ha:evs t cl.args.toList=some as)
  (hrf:rfs true d (if live then h else h0) (as++caps)=some as') (hb:FnS P k as' h0 0 (.sl b 0 len sz) h1 x1) (hh:h1 b=some (.cells es)) (hlen:len=es.length) (hrf':rfe (!live) d' (upd h1 b none) es=some es'):
  OpS P N ops n0 i ⟨t,h,x⟩ (if live then .Q else .L) ⟨put t o.dst (.sl (n0+i) 0 len sz),upd h (n0+i) (some (.cells es')),x⟩:=by
 have hk:=hb.2.1;have hnw:(if live then Cls.Q else Cls.L).w=false:=by cases live<;>rfl
 refine⟨o,.sl (n0+i) 0 len sz,[(n0+i,some (.cells es'))],ho,hd,rfl,Nat.le_refl _,fun _=>⟨rfl,rfl,fun _ h=>by simp at h;subst h;exact .inl ⟨rfl,by simp⟩⟩,(fun hc=>by cases live<;>simp at hc),(fun _ _ h=>by cases live<;>cases h),(fun _ h=>by cases live<;>cases h),(fun _ _ h=>by cases live<;>cases h),
  fun b hb _ hh=>(by show upd _ _ _ b=none;rw[upd_ne hb];exact hh),fun hf hlt b hb=>(by show upd _ _ _ b=none;rw[upd_ne (by simp only at hb hlt;omega)];exact hf b hb),fun ro w S F m a g hr hag _ hl hs hx hfr hlt Q K hK=>?_⟩
 refine wpOp_of ho (gd_wanted hg hl) (fun c hc=>by rw[hc] at hop;cases hop) ?_;obtain⟨vs,hL,hrun⟩:=call_enter (P:=P) hk hop hc hf ha (EV.looks hr.glob hl);rw[hrun,Oper.uponIn_enter];refine⟨wd_depth ro 0,callsIn_wd ?_⟩;refine(frozen_call live hr hL (fun hlv b o p hm hb=>hag b o p (by rw[hlv];simp[Cls.needs]) hm hb) hrf hb).mono fun e w' he=>?_
 obtain⟨v,Sc,mc,rfl,hext,hv,hrel,hSc,hlive⟩:=he
 -- the block that is taken over
 generalize hav:AV.sl b 0 len sz=av at hv;cases hv<;>simp only[reduceCtorEq,AV.sl.injEq] at hav
 case sl b' off' len' cap p q1 q2 q3 q4 hm=>
 obtain⟨rfl,rfl,rfl,hps⟩:=hav;have hCR:=hrel.content b _ p hh hm;have hpl:=hlive b _ p hh hm;obtain⟨arr,ty,c1,c2,c3,c4,c5,c6⟩:=hCR.erT
 have hcont':∀b₁ o p,upd h1 b none b₁=some o→mc b₁=some p→CR w' Sc mc p o:=by
  intro b₁ o p' hb₁ hm₁;by_cases e:b₁=b
  ·subst e;rw[upd_same] at hb₁;cases hb₁
  ·rw[upd_ne e] at hb₁;exact hrel.content b₁ o p' hb₁ hm₁
 obtain⟨k1,k2⟩:=(rf_all (!live) (upd h1 b none) hcont' d').2.2 _ _ hrf'
 have hsub:∀k,SF (!live) Sc (upd h1 b none) mc k→S k∨(w.heap.size≤k∧k<w'.heap.size∧¬(k=p.blk)):=by
  intro k hk;rcases hk with ⟨hfr,hk⟩|⟨b₁,o,p₁,hb₁,hm₁,rfl⟩
  ·have hne:k≠p.blk:=fun e=>(hrel.apart b _ p hh hm).1 (e▸hk)
   rcases hSc k hk with ⟨_,h2⟩|⟨h2,_⟩|h2
   ·exact .inl h2
   ·rw[h2] at hfr;simp at hfr
   ·exact .inr ⟨h2.1,h2.2,hne⟩
  ·by_cases e:b₁=b
   ·subst e;rw[upd_same] at hb₁;cases hb₁
   ·rw[upd_ne e] at hb₁;exact .inr ⟨(hlive b₁ o p₁ hb₁ hm₁).1,(hlive b₁ o p₁ hb₁ hm₁).2,hrel.disj _ _ _ _ _ _ hb₁ hh hm₁ hm e⟩
 have hr1:=hr.behind hext (fun k=>k=p.blk)
 have hE:ER w' (fun k=>S k∨(w.heap.size≤k∧k<w'.heap.size∧¬(k=p.blk))) (setm m (n0+i) p) p.sz es' ((arr.toList.drop p.off).take (p.ext*p.sz)):=by
  refine⟨by rw[c5.len,k1],fun j e' he'=>?_⟩;have hj:j<es.length:=by rw[←k1];exact(List.getElem?_eq_some_iff.1 he').1
  obtain⟨e2,he2,l1,l2,l3⟩:=k2 j _ (List.getElem?_eq_getElem hj);rw[he'] at he2;cases he2;obtain⟨m1,m2,m3⟩:=c5.each j _ (List.getElem?_eq_getElem hj);refine⟨by rw[l1,m1],l2 m2, ?_⟩;exact(l3 _ m3).mono (Ext.refl _ _) hsub (fun _ _ h=>by cases h)
 have hCR':CR w' (fun k=>S k∨(w.heap.size≤k∧k<w'.heap.size∧¬(k=p.blk))) (setm m (n0+i) p) p (.cells es'):=CR.mk c1 (by rw[k1];exact c2) c3 c4 hE c6;have hle:=setm_le (p:=p) hs
 have hrel':Rel w' (fun k=>S k∨(w.heap.size≤k∧k<w'.heap.size∧¬(k=p.blk))) F (setm m (n0+i) p) (upd g (n0+i) (some (.cells es'))):=by
  have old:∀c o q,c≠n0+i→upd g (n0+i) (some (.cells es')) c=some o→setm m (n0+i) p c=some q→g c=some o∧m c=some q:=by
   intro c o q hc hgc hq;rw[upd_ne hc] at hgc;rw[setm_ne hc] at hq;exact⟨hgc,hq⟩
  refine⟨fun c o q hgc hq=>?_,fun c₁ c₂ o₁ o₂ q₁ q₂ g₁ g₂ r₁ r₂ hne=>?_,fun c o q hgc hq=>?_,hr1.inS,hr1.inF,fun c q hq=>?_,hr1.glob⟩
  ·by_cases e:c=n0+i
   ·subst e;rw[upd_same] at hgc;cases hgc;rw[setm_same] at hq;cases hq;exact hCR'
   ·obtain⟨j1,j2⟩:=old c o q e hgc hq;exact(hr1.content c o q j1 j2).mono (Ext.refl _ _) (fun _ h=>h) hle rfl
  ·by_cases e1:c₁=n0+i
   ·by_cases e2:c₂=n0+i
    ·exact absurd (e1.trans e2.symm) hne
    ·subst e1;rw[setm_same] at r₁;cases r₁;have:=hr.inm c₂ q₂ (old _ _ _ e2 g₂ r₂).2;intro e;omega
   ·by_cases e2:c₂=n0+i
    ·subst e2;rw[setm_same] at r₂;cases r₂;have:=hr.inm c₁ q₁ (old _ _ _ e1 g₁ r₁).2;intro e;omega
    ·obtain⟨j1,j2⟩:=old _ _ _ e1 g₁ r₁;obtain⟨l1,l2⟩:=old _ _ _ e2 g₂ r₂;exact hr.disj _ _ _ _ _ _ j1 l1 j2 l2 hne
  ·by_cases e:c=n0+i
   ·subst e;rw[setm_same] at hq;cases hq;refine⟨fun hk=>hk.elim (fun hk=>?_) (fun hk=>hk.2.2 rfl),fun hk=>?_⟩
    ·have:=hr.inS _ hk;omega
    ·have:=hr.inF _ hk;omega
   ·obtain⟨j1,j2⟩:=old c o q e hgc hq;exact hr1.apart c o q j1 j2
  ·by_cases e:c=n0+i
   ·subst e;rw[setm_same] at hq;cases hq;exact hpl.2
   ·rw[setm_ne e] at hq;exact hr1.inm c q hq
 refine hK _ w' _ (setm m (n0+i) p) (hext.mono fun k hk=>hk.elim (hr.inS k) (hr.inF k)) (fun k hk=> .inl hk) (fun k hk=>hk.imp id (fun h=>h.1)) hle (fun _ c hc=>setm_ne hc) (fun hc=>by rw[hnw] at hc;cases hc) (fun _ y hy hne=>by simp at hy;subst hy;exact absurd rfl hne) ?_
  (fun _=>hrel') (fun hc=>by rw[hnw] at hc;cases hc)
 ·rw[hps];exact .sl (n0+i) 0 len cap p setm_same q1 q2 q3 q4
end
end Go.Av
namespace Go.Av
def OpsS (P:Program) (N:Nat) (ops:Array Oper) (n0:Nat):List Nat→OS→List Cls→OS→Prop
 |[],σ,[],σ'=>σ=σ'
 |i::l,σ,c::cs,σ'=>∃σ1,OpS P N ops n0 i σ c σ1∧OpsS P N ops n0 l σ1 cs σ'
 |_,_,_,_=>False
section
variable {P:Program} {w:World} {S F:Nat→Prop} {m:Pm} {N:Nat} {ops:Array Oper} {n0:Nat}
theorem seq_ops:∀(l:List Nat) (σ:OS) (cs:List Cls) (σ':OS),OpsS P N ops n0 l σ cs σ'→l.Nodup→(∀i∈l,n0+i<σ.x)→
  (σ.x≤σ'.x∧(∀b,(∀i∈l,b≠n0+i)→b<σ.x→σ.h b=none→σ'.h b=none)∧((∀b,σ.x≤b→σ.h b=none)→∀b,σ'.x≤b→σ'.h b=none))∧
  ∀(ro:Option Nat) (w:World) (S F:Nat→Prop) (m:Pm) (a:Act) (Q:Exit→Act→World→Prop),(∀b,σ.x≤b→σ.h b=none)→Rel w S F m σ.h→TR w S m N σ.t a→(∀i∈l,m (n0+i)=none)→(∀b,σ.x≤b→m b=none)→
   (∀a' w' S' m',Ext (fun k=>S k∨F k) w w'→(∀k,S k→S' k)→(∀k,S' k→S k∨w.heap.size≤k)→(∀b p,m b=some p→m' b=some p)→(∀b,(∀i∈l,b≠n0+i)→b<σ.x→m' b=m b)→
     (∀b,σ'.x≤b→m' b=none)→TR w' S' m' N σ'.t a'→Rel w' S' F m' σ'.h→a'.defers=a.defers→Q .normal a' w')→wpOpsIn (wd ro) 0 P ops Q l a w
 |[],σ,[],σ',h,_,_=>by
  cases h;exact⟨⟨Nat.le_refl _,fun _ _ _ h=>h,fun h=>h⟩,fun ro w S F m a Q _ hr ht _ hx hQ=>hQ a w S m (Ext.refl _ _) (fun _ h=>h) (fun _ h=> .inl h) (fun _ _ h=>h) (fun _ _ _=>rfl) hx ht hr rfl⟩
 |[],_,_::_,_,h,_,_=>h.elim
 |_::_,_,[],_,h,_,_=>h.elim
 |i::l,σ,c::cs,σ',h,hnd,hlt=>by
  obtain⟨σ1,⟨o,v,u,h1⟩,h2⟩:=h;have hi:n0+i<σ.x:=hlt i (by simp);have hnd':=List.nodup_cons.1 hnd;obtain⟨⟨ih1,ih2,ih3⟩,ih⟩:=seq_ops l σ1 cs σ' h2 hnd'.2 (fun j hj=>Nat.lt_of_lt_of_le (hlt j (by simp[hj])) h1.x);refine⟨⟨Nat.le_trans h1.x ih1,fun b hb hbx hn=>?_,fun hf=>ih3 (h1.free hf hi)⟩,fun ro w S F m a Q hfr hr ht hs hx hQ=>?_⟩
  ·exact ih2 b (fun j hj=>hb j (by simp[hj])) (Nat.lt_of_lt_of_le hbx h1.x) (h1.res b (hb i (by simp)) hbx hn)
  rw[wpOpsIn_cons];refine h1.sim ro w S F m a σ.h hr (fun b o p _ _ h=>h) (fun _ _ _ _ _=>rfl) (fun x _=>ht.2 x) (hs i (by simp)) (fun _=>hx) hfr hi Q _ fun v' w' S' m' e1 e2 e3 e4 e5 e6 _ e7 e8 e9=>?_
  have hrel:Rel w' S' F m' σ1.h:=by
   cases hW:c.w with
   |true=>exact(e9 hW).less fun b o hb=>mg_le hb
   |false=>rw[(h1.quiet hW).2.1];exact e8 hW
  have old:∀b,b<σ.x→b≠n0+i→m' b=m b:=fun b hb hne=>by
   cases hW:c.w with
   |true=>exact(e6 hW).1 b hb hne
   |false=>exact e5 hW b hne
  have fre:∀b,σ1.x≤b→m' b=none:=fun b hb=>by
   cases hW:c.w with
   |true=>exact(e6 hW).2 b hb
   |false=>
    rw[(h1.quiet hW).1] at hb;rw[e5 hW b (by omega)];exact hx b hb
  have htr:TR w' S' m' N σ1.t (a.put o.dst v'):=by
   rw[h1.t];exact(ht.mono (e1.mono fun k hk=> .inl hk) e2 e4).put h1.dst e7
  refine ih ro w' S' F m' (a.put o.dst v') Q (h1.free hfr hi) hrel htr (fun j hj=>?_) fre fun a'' w'' S'' m'' f1 f2 f3 f4 f5 f6 f7 f8 f9=>?_
  ·have hne:j≠i:=fun e=>hnd'.1 (e▸hj)
   rw[old (n0+j) (hlt j (by simp[hj])) (by omega)];exact hs j (by simp[hj])
  ·refine hQ a'' w'' S'' m'' (e1.trans f1 fun k hk=>hk.imp (e2 k) id) (fun k hk=>f2 k (e2 k hk)) (fun k hk=>?_) (fun b p hb=>f4 b p (e4 b p hb)) (fun b hb hbx=>?_) f6 f7 f8 (f9.trans (by cases o.dst<;>rfl))
   ·rcases f3 k hk with h|h
    ·exact e3 k h
    ·exact .inr (Nat.le_trans e1.size h)
   ·rw[f5 b (fun j hj=>hb j (by simp[hj])) (Nat.lt_of_lt_of_le hbx h1.x),old b hbx (hb i (by simp))]
end
end Go.Av
namespace Go.Av
inductive Anc (ops:Array Oper):Nat→Nat→Prop where
 |base {i j:Nat} {o:Oper} (ho:ops[j]?=some o) (h:i∈preds o):Anc ops i j
 |step {i p j:Nat} {o:Oper} (ho:ops[j]?=some o) (h:p∈preds o) (k:Anc ops i p):Anc ops i j
theorem ancOf_bit (acc:List Nat) (i:Nat):∀(ps:List Nat) (s:Nat),(ps.foldl (fun s p=>s|||2^p|||acc.getD p 0) s).testBit i=true→s.testBit i=true∨∃p∈ps,i=p∨(acc.getD p 0).testBit i=true
 |[],s,h=> .inl h
 |p::ps,s,h=>by
  rcases ancOf_bit acc i ps _ h with h1|⟨q,hq,h1⟩
  ·simp only[Nat.testBit_or,Bool.or_eq_true,Nat.testBit_two_pow,decide_eq_true_eq] at h1;rcases h1 with (h1|h1)|h1
   ·exact .inl h1
   ·exact .inr ⟨p,by simp,.inl h1.symm⟩
   ·exact .inr ⟨p,by simp,.inr h1⟩
  ·exact .inr ⟨q,by simp[hq],h1⟩
theorem ancL_bit (ops:Array Oper):∀(l pre:List Oper) (acc:List Nat),ops.toList=pre++l→acc.length=pre.length→(∀j i,(acc.getD j 0).testBit i=true→Anc ops i j)→
  ∀j i,((ancL l acc).getD j 0).testBit i=true→Anc ops i j
 |[],pre,acc,_,_,h=>h
 |o::l,pre,acc,ho,hl,h=>by
  refine ancL_bit ops l (pre++[o]) (acc++[ancOf acc o]) (by simp[ho]) (by simp[hl]) fun j i hb=>?_
  by_cases hj:j<acc.length
  ·rw[List.getD_eq_getElem?_getD,List.getElem?_append_left hj,←List.getD_eq_getElem?_getD] at hb;exact h j i hb
  ·by_cases hj2:j=acc.length
   ·subst hj2;have e:(acc++[ancOf acc o]).getD acc.length 0=ancOf acc o:=by simp
    rw[e] at hb
    have hop:ops[acc.length]?=some o:=by
     rw[←Array.getElem?_toList,ho,hl,List.getElem?_append_right (Nat.le_refl _)];simp
    rcases ancOf_bit acc i (preds o) 0 hb with h1|⟨p,hp,h1⟩
    ·simp at h1
    ·rcases h1 with rfl|h1
     ·exact .base hop hp
     ·exact .step hop hp (h p i h1)
   ·have hz:(acc++[ancOf acc o]).getD j 0=0:=by
     rw[List.getD_eq_getElem?_getD,List.getElem?_eq_none (by simp;omega)];rfl
    rw[hz] at hb;simp at hb
theorem drawOK_spec {ops:Array Oper} {cs:List Cls} (h:drawOK ops cs=true):(∀(j:Nat) (oj:Oper),ops[j]?=some oj→∀p∈preds oj,p<j)∧
  ∀(i j:Nat) (oi oj:Oper),ops[i]?=some oi→ops[j]?=some oj→i<j→Anc ops i j∨(oi.apart ops oj=true∧conflict (cs.getD i .W) (cs.getD j .W)=false):=by
 unfold drawOK at h;simp only[Bool.and_eq_true,List.all_eq_true,List.mem_range,Bool.or_eq_true,Bool.not_eq_true',decide_eq_true_eq] at h;obtain⟨_,h⟩:=h
 have lt:∀(j:Nat) (oj:Oper),ops[j]?=some oj→j<ops.toList.length∧ops.toList[j]?=some oj:=fun j oj hj=>by
  have:=(Array.getElem?_eq_some_iff.1 hj).1;exact⟨by simpa using this,by rw[Array.getElem?_toList];exact hj⟩
 refine⟨fun j oj hj p hp=>?_,fun i j oi oj hi hj hij=>?_⟩
 ·obtain⟨h1,h2⟩:=lt j oj hj;have:=h j h1;rw[h2] at this;simp only[Bool.and_eq_true,List.all_eq_true,decide_eq_true_eq] at this;exact this.1 p hp
 ·obtain⟨h1,h2⟩:=lt j oj hj;obtain⟨h3,h4⟩:=lt i oi hi;have:=h j h1;rw[h2] at this;simp only[Bool.and_eq_true,List.all_eq_true,List.mem_range] at this;have:=this.2 i hij;rw[h4] at this;simp only[Bool.or_eq_true,Bool.and_eq_true,Bool.not_eq_true'] at this;rcases this with h5|h5
  ·exact .inl (ancL_bit ops ops.toList [] [] (by simp) rfl (fun j i h=>by simp at h) j i h5)
  ·exact .inr h5
theorem conflict_comm (c d:Cls):conflict c d=conflict d c:=by cases c<;>cases d<;>rfl
theorem conflict_w {c d:Cls} (h:conflict c d=false) (hc:c.w=true):d=.P∨∃l s,c=.K l s∧((∃b q,d=.R b q∧(b,q)∈l)∨∃x,d=.N x∧x∈s):=by
 cases c<;>cases d<;>simp[conflict,Cls.w] at h hc ⊢
 ·rename_i l s b q
  obtain⟨x,y,h1,h2,h3⟩:=h;have:=Query.beq_eq h3;subst h2;subst this;exact⟨_,_,⟨rfl,rfl⟩,h1⟩
 ·exact⟨_,_,⟨rfl,rfl⟩,h⟩
theorem conflict_ww {c d:Cls} (h:conflict c d=false) (hc:c.w=true) (hd:d.w=true):False:=by
 rcases conflict_w h hc with rfl|⟨l,s,_,⟨b,q,rfl,_⟩|⟨b,rfl,_⟩⟩<;>cases hd
structure Rec (P:Program) (N:Nat) (ops:Array Oper) (n0 n:Nat) (σs:Nat→OS) (c:Nat→Cls) (o:Nat→Oper) (v:Nat→AV) (u:Nat→Upd):Prop where
 op:∀i,i<n→OpS1 P N ops n0 i (σs i) (c i) (σs (i+1)) (o i) (v i) (u i)
 x0:(σs 0).x=n0+n
 fresh0:∀b,n0≤b→(σs 0).h b=none
 size:ops.size=n
 preds:∀i,i<n→∀p∈Av.preds (o i),p<i
 indep:∀i j,i<j→j<n→Anc ops i j∨((o i).apart ops (o j)=true∧conflict (c i) (c j)=false)
noncomputable def gD (σs:Nat→OS) (D:Nat→Bool):Nat→Heap
 |0=>(σs 0).h
 |k+1=>open Classical in fun b=>if D k=true∧(σs (k+1)).h b≠(σs k).h b then (σs (k+1)).h b else gD σs D k b
def tD (σs:Nat→OS) (o:Nat→Oper) (D:Nat→Bool):Nat→Fr
 |0=>(σs 0).t
 |k+1=>fun x=>if D k=true∧(o k).dst=some x then (σs (k+1)).t x else tD σs o D k x
def xD (σs:Nat→OS) (c:Nat→Cls) (D:Nat→Bool):Nat→Nat
 |0=>(σs 0).x
 |k+1=>if D k=true∧(c k).w=true then (σs (k+1)).x else xD σs c D k
section
variable {P:Program} {N:Nat} {ops:Array Oper} {n0 n:Nat} {σs:Nat→OS} {c:Nat→Cls} {o:Nat→Oper} {v:Nat→AV} {u:Nat→Upd} {D D':Nat→Bool}
theorem gD_eq1 (b:Nat):∀k,(∀j,j<k→(σs (j+1)).h b≠(σs j).h b→D j=true)→gD σs D k b=(σs k).h b
 |0,_=>rfl
 |k+1,h=>by
  simp only[gD];split
  ·rfl
  ·rename_i hn
   by_cases hm:(σs (k+1)).h b=(σs k).h b
   ·rw[hm];exact gD_eq1 b k fun j hj=>h j (by omega)
   ·exact absurd ⟨h k (by omega) hm,hm⟩ hn
theorem gD_eq2 (b i:Nat):∀k,i≤k→(∀j,i≤j→j<k→D j=true→(σs (j+1)).h b=(σs j).h b)→gD σs D k b=gD σs D i b
 |0,hi,_=>by have:i=0:=by omega
             subst this;rfl
 |k+1,hi,h=>by
  by_cases he:i=k+1
  ·subst he;rfl
  ·simp only[gD];rw[if_neg fun hh=>hh.2 (h k (by omega) (by omega) hh.1)];exact gD_eq2 b i k (by omega) fun j h1 h2=>h j h1 (by omega)
theorem tD_eq1 (H:Rec P N ops n0 n σs c o v u) (x:Nat):∀k,k≤n→(∀j,j<k→(o j).dst=some x→D j=true)→tD σs o D k x=(σs k).t x
 |0,_,_=>rfl
 |k+1,hk,h=>by
  simp only[tD];split
  ·rfl
  ·rename_i hn
   have hd:(o k).dst≠some x:=fun e=>hn ⟨h k (by omega) e,e⟩
   rw[tD_eq1 H x k (by omega) fun j hj=>h j (by omega),(H.op k (by omega)).t]
   cases hdd:(o k).dst with
   |none=>rfl
   |some d=>simp only[put];rw[if_neg fun e=>hd (by rw[hdd,e])]
theorem tD_eq2 (x i:Nat):∀k,i≤k→(∀j,i≤j→j<k→D j=true→(o j).dst≠some x)→tD σs o D k x=tD σs o D i x
 |0,hi,_=>by have:i=0:=by omega
             subst this;rfl
 |k+1,hi,h=>by
  by_cases he:i=k+1
  ·subst he;rfl
  ·simp only[tD];rw[if_neg fun hh=>h k (by omega) (by omega) hh.1 hh.2];exact tD_eq2 x i k (by omega) fun j h1 h2=>h j h1 (by omega)
theorem xD_eq1 (H:Rec P N ops n0 n σs c o v u):∀k,k≤n→(∀j,j<k→(c j).w=true→D j=true)→xD σs c D k=(σs k).x
 |0,_,_=>rfl
 |k+1,hk,h=>by
  simp only[xD];split
  ·rfl
  ·rename_i hn
   have hd:(c k).w=false:=by
    cases hw:(c k).w with
    |true=>exact absurd ⟨h k (by omega) hw,hw⟩ hn
    |false=>rfl
   rw[xD_eq1 H k (by omega) fun j hj=>h j (by omega),((H.op k (by omega)).quiet hd).1]
theorem xD_eq2 (i:Nat):∀k,i≤k→(∀j,i≤j→j<k→D j=true→(c j).w≠true)→xD σs c D k=xD σs c D i
 |0,hi,_=>by have:i=0:=by omega
             subst this;rfl
 |k+1,hi,h=>by
  by_cases he:i=k+1
  ·subst he;rfl
  ·simp only[xD];rw[if_neg fun hh=>h k (by omega) (by omega) hh.1 hh.2];exact xD_eq2 i k (by omega) fun j h1 h2=>h j h1 (by omega)
theorem Rec.xmono (H:Rec P N ops n0 n σs c o v u):∀i,i≤n→n0+n≤(σs i).x
 |0,_=>by rw[H.x0];exact Nat.le_refl _
 |i+1,hi=>Nat.le_trans (H.xmono i (by omega)) (H.op i (by omega)).x
theorem xD_ge (H:Rec P N ops n0 n σs c o v u):∀k,k≤n→n0+n≤xD σs c D k
 |0,_=>by simp only[xD];rw[H.x0];exact Nat.le_refl _
 |k+1,hk=>by
  simp only[xD];split
  ·exact H.xmono _ hk
  ·exact xD_ge H k (by omega)
theorem Rec.fresh (H:Rec P N ops n0 n σs c o v u):∀i,i≤n→∀b,(σs i).x≤b→(σs i).h b=none
 |0,_=>fun b hb=>H.fresh0 b (by rw[H.x0] at hb;omega)
 |i+1,hi=>(H.op i (by omega)).free (H.fresh i (by omega)) (by have:=H.xmono i (by omega);omega)
theorem Rec.unborn (H:Rec P N ops n0 n σs c o v u) {j:Nat} (hj:j<n):∀i,i≤j→(σs i).h (n0+j)=none
 |0,_=>H.fresh0 _ (by omega)
 |i+1,hi=>(H.op i (by omega)).res _ (by omega) (by have:=H.xmono i (by omega);omega) (H.unborn hj i (by omega))
theorem Rec.mod (H:Rec P N ops n0 n σs c o v u) {j b:Nat} (hj:j<n) (hm:(σs (j+1)).h b≠(σs j).h b) (hW:(c j).w=false):
  c j≠.P∧(∀b q,c j≠.R b q)∧(b=n0+j∨(c j=.F∧n0≤b∧(σs j).h b≠none∧∃y∈u j,y.1=b∧y.1≠n0+j)):=by
 obtain⟨_,h2,h3⟩:=(H.op j hj).quiet hW
 have hin:∃y∈u j,y.1=b:=by
  by_cases hh:∃y∈u j,y.1=b
  ·exact hh
  ·exact absurd (by rw[h2,upds_notin _ _ _ fun y hy e=>hh ⟨y,hy,e⟩]) hm
 obtain⟨y,hy,rfl⟩:=hin;refine⟨(fun hP=>by rw[(H.op j hj).pure hP] at hy;cases hy),(fun b q hR=>by rw[((H.op j hj).rd b q hR).1] at hy;cases hy), ?_⟩;rcases h3 y hy with h4|h4
 ·exact .inl h4.1
 ·by_cases he:y.1=n0+j
  ·exact .inl he
  ·exact .inr ⟨h4.1,h4.2.1,h4.2.2.2,y,hy,rfl,he⟩
theorem Anc.closed (H:Rec P N ops n0 n σs c o v u) (hcl:∀j,j<n→D j=true→∀p∈Av.preds (o j),D p=true) {i j:Nat} (h:Anc ops i j):j<n→D j=true→D i=true:=by
 induction h with
 |base ho h=>
  intro hj hd;have:=(H.op _ hj).op;rw[ho] at this;cases this;exact hcl _ hj hd _ h
 |step ho h k ih=>
  intro hj hd;have:=(H.op _ hj).op;rw[ho] at this;cases this;have hp:=H.preds _ hj _ h;exact ih (by omega) (hcl _ hj hd _ h)
structure Next (H:Rec P N ops n0 n σs c o v u) (D:Nat→Bool) (i:Nat):Prop where
 lt:i<n
 no:D i=false
 before:∀j,j<i→D j=false→(o j).apart ops (o i)=true∧conflict (c j) (c i)=false
 behind:∀j,i<j→j<n→D j=true→(o i).apart ops (o j)=true∧conflict (c i) (c j)=false
theorem Next.of (H:Rec P N ops n0 n σs c o v u) (hcl:∀j,j<n→D j=true→∀p∈Av.preds (o j),D p=true) {i:Nat} (hi:i<n) (hno:D i=false) (hp:∀p∈Av.preds (o i),D p=true):Next H D i:=by
 refine⟨hi,hno,fun j hj hd=>?_,fun j hj hjn hd=>?_⟩
 ·refine(H.indep j i hj hi).resolve_left fun ha=>?_
  have:D j=true:=by
   have key:∀{a b},Anc ops a b→b=i→D a=true:=by
    intro a b hab
    cases hab with
    |base ho h=>intro e;subst e;have:=(H.op _ hi).op;rw[ho] at this;cases this;exact hp _ h
    |step ho h k=>intro e;subst e;have:=(H.op _ hi).op;rw[ho] at this;cases this
                  exact k.closed H hcl (by have:=H.preds _ hi _ h;omega) (hp _ h)
   exact key ha rfl
  rw[hd] at this;cases this
 ·refine(H.indep i j hj hjn).resolve_left fun ha=>?_
  have:=ha.closed H hcl hjn hd;rw[hno] at this;cases this
theorem Next.sees {H:Rec P N ops n0 n σs c o v u} {i:Nat} (X:Next H D i) {b:Nat} (hn:(c i).needs n0 b) (hs:∀j,j<n→D j=false→b≠n0+j)
  (hsome:(σs i).h b≠none∨((c i).w=true∧∀j,j<n→i<j→b≠n0+j)):gD σs D n b=(σs i).h b:=by
 obtain⟨hP,hN,hL,hR⟩:=hn
 have e2:gD σs D n b=gD σs D i b:=by
  refine gD_eq2 b i n (by have:=X.lt;omega) fun j hij hjn hd=>?_
  by_cases hm:(σs (j+1)).h b=(σs j).h b
  ·exact hm
  exfalso;have hne:i≠j:=fun e=>by subst e;rw[X.no] at hd;cases hd
  have hcf:=(X.behind j (by omega) hjn hd).2
  cases hW:(c j).w with
  |true=>
   rw[conflict_comm] at hcf;rcases conflict_w hcf hW with h|⟨l,s,hl,⟨b0,q,h,hb⟩|⟨x,h,hb⟩⟩
   ·exact hP h
   ·exact hR b0 q h
   ·exact hN x h
  |false=>
   obtain⟨hjP,hjR,hor⟩:=H.mod hjn hm hW;rcases hor with hb|⟨hF,hb0,_,_⟩
   ·have:=H.unborn hjn i (by omega);rw[←hb] at this;exact hsome.elim (fun h=>h this) fun h=>h.2 j hjn (by omega) hb
   ·rw[hF] at hcf;have:c i=.L:=by revert hP hN hcf;cases c i<;>simp[conflict]
    have:=hL this;omega
 rw[e2];refine gD_eq1 b i fun j hj hm=>?_
 cases hd:D j with
 |true=>rfl
 |false=>
  exfalso;have hjn:j<n:=by have:=X.lt;omega
  have hcf:=(X.before j hj hd).2
  cases hW:(c j).w with
  |true=>
   rcases conflict_w hcf hW with h|⟨l,s,hl,⟨b0,q,h,hb⟩|⟨x,h,hb⟩⟩
   ·exact hP h
   ·exact hR b0 q h
   ·exact hN x h
  |false=>
   obtain⟨hjP,hjR,hor⟩:=H.mod hjn hm hW;rcases hor with hb|⟨hF,hb0,_,_⟩
   ·exact hs j hjn hd hb
   ·rw[hF] at hcf;have:c i=.L:=by revert hP hN hcf;cases c i<;>simp[conflict]
    have:=hL this;omega
theorem Next.asks {H:Rec P N ops n0 n σs c o v u} (hcl:∀j,j<n→D j=true→∀p∈Av.preds (o j),D p=true) {i:Nat} (X:Next H D i) {b:Nat} {q:Query} (hR:c i=.R b q) (hs:∀j,j<n→D j=false→b≠n0+j):
  rdQ q (gD σs D n b)=rdQ q ((σs i).h b):=by
 have hi:=X.lt;have hsome:(σs i).h b≠none:=fun e=>((H.op i hi).rd b q hR).2 (by rw[e];cases q<;>rfl)
 have hA:∀k,k≤i→rdQ q (gD σs D k b)=rdQ q ((σs k).h b):=by
  intro k
  induction k with
  |zero=>intro _;rfl
  |succ k ih=>
   intro hk;have ih:=ih (by omega);simp only[gD];split
   ·rfl
   ·rename_i hn
    rw[ih];by_cases hm:(σs (k+1)).h b=(σs k).h b
    ·rw[hm]
    have hd:D k=false:=by
     cases hd:D k with
     |true=>exact absurd ⟨hd,hm⟩ hn
     |false=>rfl
    have hcf:=(X.before k (by omega) hd).2
    cases hW:(c k).w with
    |true=>
     rcases conflict_w hcf hW with h|⟨l,s,hl,⟨b0,q0,h,hb⟩|⟨x,h,hb⟩⟩
     ·rw[hR] at h;cases h
     ·rw[hR] at h;cases h;exact(((H.op k (by omega)).keep l s hl).1 _ hb).symm
     ·rw[hR] at h;cases h
    |false=>
     obtain⟨_,_,hor⟩:=H.mod (by omega) hm hW;rcases hor with hb|⟨hF,_⟩
     ·exact absurd hb (hs k (by omega) hd)
     ·rw[hF,hR] at hcf;cases hcf
 have hB:∀k,i≤k→k≤n→rdQ q (gD σs D k b)=rdQ q ((σs i).h b):=by
  intro k
  induction k with
  |zero=>intro hk _;have:i=0:=by omega
         subst this;rfl
  |succ k ih=>
   intro hik hkn;by_cases he:i=k+1
   ·subst he;exact hA _ (Nat.le_refl _)
   have ih:=ih (by omega) (by omega);simp only[gD];split
   ·rename_i hdm
    obtain⟨hdk,hmk⟩:=hdm;have hne:i≠k:=fun e=>by subst e;rw[X.no] at hdk;cases hdk
    have hwk:(c k).w=true:=by
     cases hW:(c k).w with
     |true=>rfl
     |false=>
      exfalso;obtain⟨_,_,hor⟩:=H.mod (by omega) hmk hW;rcases hor with hb|⟨hF,_⟩
      ·exact hsome (by rw[hb];exact H.unborn (by omega) i (by omega))
      ·have hcf:=(X.behind k (by omega) (by omega) hdk).2;rw[hF,hR] at hcf;cases hcf
    have chain:∀j,i≤j→j≤k→rdQ q ((σs (j+1)).h b)=rdQ q ((σs j).h b):=by
     intro j hij hjk;by_cases hm:(σs (j+1)).h b=(σs j).h b
     ·rw[hm]
     by_cases hji:i=j
     ·subst hji;have:=(H.op i hi).quiet (by rw[hR];rfl);rw[((H.op i hi).rd b q hR).1] at this;exact absurd (by rw[this.2.1];rfl) hm
     cases hd:D j with
     |true=>
      have hcf:=(X.behind j (by omega) (by omega) hd).2
      cases hW:(c j).w with
      |true=>
       rw[conflict_comm] at hcf;rcases conflict_w hcf hW with h|⟨l,s,hl,⟨b0,q0,h,hb⟩|⟨x,h,hb⟩⟩
       ·rw[hR] at h;cases h
       ·rw[hR] at h;cases h;exact((H.op j (by omega)).keep l s hl).1 _ hb
       ·rw[hR] at h;cases h
      |false=>
       exfalso;obtain⟨_,_,hor⟩:=H.mod (by omega) hm hW;rcases hor with hb|⟨hF,_⟩
       ·exact hsome (by rw[hb];exact H.unborn (by omega) i (by omega))
       ·rw[hF,hR] at hcf;cases hcf
     |false=>
      exfalso
      have hjk':j<k:=by
       rcases Nat.lt_or_ge j k with h|h
       ·exact h
       ·have:j=k:=by omega
        subst this;rw[hdk] at hd;cases hd
      rcases H.indep j k hjk' (by omega) with ha|⟨_,hcf⟩
      ·have:=ha.closed H hcl (by omega) hdk;rw[hd] at this;cases this
      ·rw[conflict_comm] at hcf
       have hwj:(c j).w=false:=by
        cases hw:(c j).w with
        |true=>exact(conflict_ww hcf hwk hw).elim
        |false=>rfl
       obtain⟨_,_,hor⟩:=H.mod (by omega) hm hwj;rcases hor with hb|⟨hF,_⟩
       ·exact hsome (by rw[hb];exact H.unborn (by omega) i (by omega))
       ·rcases conflict_w hcf hwk with h|⟨_,_,_,⟨_,_,h,_⟩|⟨_,h,_⟩⟩<;>rw[h] at hF<;>cases hF
    have all:∀j,i≤j→j≤k→rdQ q ((σs (j+1)).h b)=rdQ q ((σs i).h b):=by
     intro j
     induction j with
     |zero=>intro h1 h2;rw[chain 0 h1 h2];have:i=0:=by omega
            subst this;rfl
     |succ j ihj=>
      intro h1 h2;rw[chain (j+1) h1 h2];by_cases he:i=j+1
      ·rw[he]
      ·exact ihj (by omega) (by omega)
    exact all k (by omega) (Nat.le_refl _)
   ·exact ih
 exact hB n (by omega) (Nat.le_refl _)
theorem Next.slots {H:Rec P N ops n0 n σs c o v u} {i:Nat} (X:Next H D i) {x:Nat} (hx:x∈(o i).looksAt ops):tD σs o D n x=(σs i).t x:=by
 have e2:tD σs o D n x=tD σs o D i x:=by
  refine tD_eq2 x i n (by have:=X.lt;omega) fun j hij hjn hd he=>?_
  have hne:i≠j:=fun e=>by subst e;rw[X.no] at hd;cases hd
  exact(Oper.apart_spec (X.behind j (by omega) hjn hd).1).2.2 x he hx
 rw[e2];refine tD_eq1 H x i (by have:=X.lt;omega) fun j hj he=>?_
 cases hd:D j with
 |true=>rfl
 |false=>exact absurd hx ((Oper.apart_spec (X.before j hj hd).1).1 x he)
theorem Next.xs {H:Rec P N ops n0 n σs c o v u} {i:Nat} (X:Next H D i) (hW:(c i).w=true):xD σs c D n=(σs i).x:=by
 have e2:xD σs c D n=xD σs c D i:=by
  refine xD_eq2 i n (by have:=X.lt;omega) fun j hij hjn hd he=>?_
  have hne:i≠j:=fun e=>by subst e;rw[X.no] at hd;cases hd
  exact conflict_ww (X.behind j (by omega) hjn hd).2 hW he
 rw[e2];refine xD_eq1 H i (by have:=X.lt;omega) fun j hj he=>?_
 cases hd:D j with
 |true=>rfl
 |false=>
  exact(conflict_ww (X.before j hj hd).2 he hW).elim
def more (D:Nat→Bool) (i:Nat):Nat→Bool:=fun j=>j==i||D j
theorem tD_more {i:Nat} (H:Rec P N ops n0 n σs c o v u) (X:Next H D i) (x:Nat):tD σs o (more D i) n x=if (o i).dst=some x then v i else tD σs o D n x:=by
 have hi:=X.lt;by_cases hd:(o i).dst=some x
 ·rw[if_pos hd]
  have e1:tD σs o (more D i) n x=tD σs o (more D i) (i+1) x:=tD_eq2 x (i+1) n (by omega) fun j hij hjn hD he=>by
   have hne:¬j=i:=by omega
   have hDj:D j=true:=by simpa[more,hne] using hD
   exact(Oper.apart_spec (X.behind j (by omega) hjn hDj).1).2.1 x hd he
  rw[e1];simp only[tD,more];simp only[beq_self_eq_true,Bool.true_or,true_and,hd,if_true];rw[(H.op i hi).t,hd];simp[put]
 ·rw[if_neg hd]
  have key:∀k,tD σs o (more D i) k x=tD σs o D k x:=by
   intro k
   induction k with
   |zero=>rfl
   |succ k ih=>
    simp only[tD];by_cases hk:k=i
    ·subst hk;rw[if_neg (fun h=>hd h.2),if_neg (fun h=>hd h.2)];exact ih
    ·have:more D i k=D k:=by simp[more,hk]
     rw[this,ih]
  exact key n
theorem gD_more_ne {i b:Nat} (hm:(σs (i+1)).h b=(σs i).h b):∀k,gD σs (more D i) k b=gD σs D k b
 |0=>rfl
 |k+1=>by
  simp only[gD];by_cases hk:k=i
  ·subst hk;rw[if_neg (fun h=>h.2 hm),if_neg (fun h=>h.2 hm)];exact gD_more_ne hm k
  ·have:more D i k=D k:=by simp[more,hk]
   rw[this,gD_more_ne hm k]
theorem gD_more {i b:Nat} (hi:i<n) (hm:(σs (i+1)).h b≠(σs i).h b) (hl:∀j,i<j→j<n→D j=true→(σs (j+1)).h b=(σs j).h b):gD σs (more D i) n b=(σs (i+1)).h b:=by
 have e1:gD σs (more D i) n b=gD σs (more D i) (i+1) b:=gD_eq2 b (i+1) n (by omega) fun j hij hjn hD=>by
  have hne:¬j=i:=by omega
  exact hl j (by omega) hjn (by simpa[more,hne] using hD)
 rw[e1];simp only[gD];rw[if_pos ⟨by simp[more],hm⟩]
theorem xD_more {i:Nat} (H:Rec P N ops n0 n σs c o v u) (X:Next H D i):xD σs c (more D i) n=if (c i).w=true then (σs (i+1)).x else xD σs c D n:=by
 have hi:=X.lt;by_cases hW:(c i).w=true
 ·rw[if_pos hW]
  have e1:xD σs c (more D i) n=xD σs c (more D i) (i+1):=xD_eq2 (i+1) n (by omega) fun j hij hjn hD he=>by
   have hne:¬j=i:=by omega
   have hDj:D j=true:=by simpa[more,hne] using hD
   exact conflict_ww (X.behind j (by omega) hjn hDj).2 hW he
  rw[e1];simp[xD,more,hW]
 ·rw[if_neg hW]
  have key:∀k,xD σs c (more D i) k=xD σs c D k:=by
   intro k
   induction k with
   |zero=>rfl
   |succ k ih=>
    simp only[xD];by_cases hk:k=i
    ·subst hk;rw[if_neg (fun h=>hW h.2),if_neg (fun h=>hW h.2)];exact ih
    ·have:more D i k=D k:=by simp[more,hk]
     rw[this,ih]
  exact key n
end
end Go.Av
namespace Go.Av
theorem upds_val:∀(u:Upd) (h:Heap) (b:Nat),(∃y∈u,y.1=b)→∃y∈u,y.1=b∧upds h u b=y.2
 |[],_,_,hx=>by obtain⟨_,h,_⟩:=hx;cases h
 |(c,o)::u,h,b,hx=>by
  by_cases hin:∃y∈u,y.1=b
  ·obtain⟨y,hy,h1,h2⟩:=upds_val u (upd h c o) b hin;exact⟨y,by simp[hy],h1,h2⟩
  ·have hno:∀y∈u,y.1≠b:=fun y hm e=>hin ⟨y,hm,e⟩
   obtain⟨y,hy,he⟩:=hx;rcases List.mem_cons.1 hy with rfl|hy
   ·simp only at he;subst he;exact⟨(c,o),by simp,rfl,by show upds (upd h c o) u c=o;rw[upds_notin u _ c hno,upd_same]⟩
   ·exact absurd he (hno y hy)
theorem Rel.lessm {w:World} {S F:Nat→Prop} {m:Pm} {g g':Heap} (h:Rel w S F m g) (hg:∀b o p,m b=some p→g' b=some o→g b=some o):Rel w S F m g':=
 ⟨fun c o p hc hm=>h.content c o p (hg _ _ _ hm hc) hm,fun c d o₁ o₂ p₁ p₂ g₁ g₂ q₁ q₂=>h.disj c d o₁ o₂ p₁ p₂ (hg _ _ _ q₁ g₁) (hg _ _ _ q₂ g₂) q₁ q₂,
  fun c o p hc hm=>h.apart c o p (hg _ _ _ hm hc) hm,h.inS,h.inF,h.inm,h.glob⟩
section
variable {P:Program} {N:Nat} {ops:Array Oper} {n0 n:Nat} {σs:Nat→OS} {c:Nat→Cls} {o:Nat→Oper} {v:Nat→AV} {u:Nat→Upd} {D:Nat→Bool}
def Inv (P:Program) (N n0 n:Nat) (σs:Nat→OS) (c:Nat→Cls) (o:Nat→Oper) (u:Nat→Upd) (w0:World) (S0 F:Nat→Prop) (m0:Pm) (a0:Act) (D:Nat→Bool) (a:Act) (w:World):Prop:=
 (∀j,j<n→D j=true→∀p∈preds (o j),D p=true)∧(∀k,k<n→D k=true→c k=.F→∀y∈u k,y.1≠n0+k→∀i,i<n→y.1=n0+i→D i=true)∧
 ∃S m,Ext (fun k=>S0 k∨F k) w0 w∧(∀k,S0 k→S k)∧(∀k,S k→S0 k∨w0.heap.size≤k)∧(∀b p,m0 b=some p→m b=some p)∧(∀b,b<n0→m b=m0 b)∧
  (∀i,i<n→D i=false→m (n0+i)=none)∧(∀b,xD σs c D n≤b→m b=none)∧TR w S m N (tD σs o D n) a∧Rel w S F m (gD σs D n)∧a.defers=a0.defers
theorem gD_slot (H:Rec P N ops n0 n σs c o v u) {i:Nat} (X:Next H D i) (hP:(c i).w=true)
  (hkill:∀k,k<n→D k=true→c k=.F→∀y∈u k,y.1≠n0+k→∀i,i<n→y.1=n0+i→D i=true):gD σs D n (n0+i)=none:=by
 have hi:=X.lt
 have e:gD σs D n (n0+i)=gD σs D 0 (n0+i):=by
  refine gD_eq2 (n0+i) 0 n (by omega) fun j _ hjn hd=>?_
  by_cases hji:j<i
  ·rw[H.unborn hi (j+1) (by omega),H.unborn hi j (by omega)]
  ·have hne:i≠j:=fun e=>by subst e;rw[X.no] at hd;cases hd
   by_cases hm:(σs (j+1)).h (n0+i)=(σs j).h (n0+i)
   ·exact hm
   exfalso;have hcf:=(X.behind j (by omega) hjn hd).2
   have hW:(c j).w=false:=by
    cases hw:(c j).w with
    |true=>exact(conflict_ww hcf hP hw).elim
    |false=>rfl
   obtain⟨hjP,_,hor⟩:=H.mod hjn hm hW;rcases hor with hb|⟨hF,hb0,_,y,hy,hyb,hyn⟩
   ·omega
   ·have:=hkill j hjn hd hF y hy hyn i hi hyb;rw[X.no] at this;cases this
 rw[e];exact H.fresh0 _ (by omega)
theorem Inv.step (H:Rec P N ops n0 n σs c o v u) {w0:World} {S0 F:Nat→Prop} {m0:Pm} {a0 a:Act} {w:World} (hI:Inv P N n0 n σs c o u w0 S0 F m0 a0 D a w) {i:Nat} (hi:i<n) (hno:D i=false)
  (hp:∀p∈preds (o i),D p=true) {Q:Exit→Act→World→Prop} {K:Act→World→Prop} (hK:∀a' w',Inv P N n0 n σs c o u w0 S0 F m0 a0 (more D i) a' w'→K a' w') (ro:Option Nat):wpOpIn (wd ro) 0 P ops Q i K a w:=by
 obtain⟨hcl,hkill,S,m,i1,i2,i3,i4,i5,i6,i7,i8,i9,i10⟩:=hI;have X:Next H D i:=Next.of H hcl hi hno hp;have hop:=H.op i hi;have hxi:=H.xmono i (by omega)
 refine hop.sim ro w S F m a (gD σs D n) i9 (fun b o' p hn hm hb=>?_) (fun b q p hR hm=>X.asks hcl hR fun j hj hd e=>by rw[e,i6 j hj hd] at hm;cases hm) (fun x hx=>by rw[←X.slots hx];exact i8.2 x) (i6 i hi hno) (fun hW b hb=>i7 b (by rw[X.xs hW];exact hb)) (H.fresh i (by omega)) (by omega) Q K
  fun v' w' S' m' e1 e2 e3 e4 e5 e6 ek e7 e8 e9=>hK _ _ ?_
 ·rw[X.sees hn (fun j hj hd e=>by rw[e,i6 j hj hd] at hm;cases hm) (.inl (by rw[hb];simp))];exact hb
 have old:∀b,b<n0+n→b≠n0+i→m' b=m b:=fun b hb hne=>by
  cases hW:(c i).w with
  |true=>exact(e6 hW).1 b (by omega) hne
  |false=>exact e5 hW b hne
 refine⟨fun j hj hd p hpj=>?_,fun k hk hd hF y hy hyn i' hi' hyi=>?_,S',m',i1.trans e1 (fun k hk=>hk.imp (i2 k) id),fun k hk=>e2 k (i2 k hk),fun k hk=>?_,fun b p hb=>e4 b p (i4 b p hb),fun b hb=>?_,
  fun j hj hd=>?_,fun b hb=>?_, ?_, ?_,i10▸(by cases (o i).dst<;>rfl)⟩
 ·by_cases hji:j=i
  ·subst hji;simp[more,hp p hpj]
  ·simp[more,hcl j hj (by simpa[more,hji] using hd) p hpj]
 ·by_cases hki:k=i
  ·subst hki;obtain⟨p,hm⟩:=ek (by rw[hF];rfl) y hy hyn
   cases hd':D i' with
   |true=>simp[more,hd']
   |false=>rw[hyi,i6 i' hi' hd'] at hm;cases hm
  ·have:=hkill k hk (by simpa[more,hki] using hd) hF y hy hyn i' hi' hyi;simp[more,this]
 ·rcases e3 k hk with h|h
  ·exact i3 k h
  ·exact .inr (Nat.le_trans i1.size h)
 ·rw[old b (by omega) (by omega),i5 b hb]
 ·have hji:j≠i:=fun e=>by subst e;simp[more] at hd
  rw[old (n0+j) (by omega) (by omega)];exact i6 j hj (by simpa[more,hji] using hd)
 ·rw[xD_more H X] at hb;by_cases hW:(c i).w=true
  ·rw[if_pos hW] at hb;exact(e6 hW).2 b hb
  ·rw[if_neg hW] at hb;have:=xD_ge (D:=D) H n (Nat.le_refl _);rw[e5 (by simpa using hW) b (by omega)];exact i7 b hb
 ·refine⟨by have:=i8.1;cases hdd:(o i).dst<;>simpa[Act.put] using this,fun x=>?_⟩;rw[getD_put i8.1 hop.dst,tD_more H X];by_cases hd:(o i).dst=some x
  ·rw[if_pos hd,if_pos hd];exact e7
  ·rw[if_neg hd,if_neg hd];exact(i8.2 x).mono (e1.mono fun k hk=> .inl hk) e2 e4
 · -- the memory
   have slot:∀b p,m' b=some p→b≠n0+i→∀j,j<n→D j=false→b≠n0+j:=fun b p hm hne j hj hd e=>by
    subst e;rw[old _ (by omega) hne,i6 j hj hd] at hm;cases hm
   have key:∀b o' p,m' b=some p→gD σs (more D i) n b=some o'→(if (c i).w=true then mg m (σs i).h (gD σs D n) (σs (i+1)).h else upds (gD σs D n) (u i)) b=some o':=by
    intro b o' p hm hb;by_cases hmod:(σs (i+1)).h b=(σs i).h b
    ·rw[gD_more_ne hmod] at hb;by_cases hW:(c i).w=true
     ·rw[if_pos hW];by_cases hbs:b=n0+i
      ·subst hbs;rw[gD_slot H X hW hkill] at hb;cases hb
      ·by_cases hlate:∃j,j<n∧i<j∧b=n0+j
       ·obtain⟨j,hjn,hij,rfl⟩:=hlate;have hm0:m (n0+j)=some p:=by rw[←old _ (by omega) hbs];exact hm
        unfold mg;rw[hmod,H.unborn hjn i (by omega)];simp[hm0,hb]
       ·have hsee:=X.sees (b:=b) (by revert hW;cases c i<;>simp[Cls.w,Cls.needs]) (slot b p hm hbs) (.inr ⟨hW,fun j hj hij e=>hlate ⟨j,hj,hij,e⟩⟩);rw[hsee,←hmod] at hb;exact mg_le hb
     ·rw[if_neg hW];obtain⟨_,h2,h3⟩:=hop.quiet (by simpa using hW);rw[upds_notin]
      ·exact hb
      ·intro y hy he;obtain⟨y,hy,he,hval⟩:=upds_val (u i) (σs i).h b ⟨y,hy,he⟩;rw[←h2,hmod] at hval;rcases h3 y hy with ⟨k1,k2⟩|⟨_,_,k3,k4⟩
       ·rw[←hval,←he,k1,H.unborn hi i (Nat.le_refl _)] at k2;exact k2 rfl
       ·rw[he,hval,k3] at k4;exact k4 rfl
    ·have hgm:gD σs (more D i) n b=(σs (i+1)).h b:=by
      refine gD_more hi hmod fun j hij hjn hd=>?_
      by_cases hm2:(σs (j+1)).h b=(σs j).h b
      ·exact hm2
      exfalso;have hcf:=(X.behind j hij hjn hd).2
      cases hWi:(c i).w with
      |true=>
       have hWj:(c j).w=false:=by
        cases hw:(c j).w with
        |true=>exact(conflict_ww hcf hWi hw).elim
        |false=>rfl
       obtain⟨hjP,hjR,horj⟩:=H.mod hjn hm2 hWj;rcases horj with hbj|⟨hF,_⟩
       ·rw[hbj,H.unborn hjn (i+1) (by omega),H.unborn hjn i (by omega)] at hmod;exact hmod rfl
       ·rcases conflict_w hcf hWi with h|⟨_,_,_,⟨_,_,h,_⟩|⟨_,h,_⟩⟩<;>rw[h] at hF<;>cases hF
      |false=>
       obtain⟨hiP,hiR,hori⟩:=H.mod hi hmod hWi
       cases hWj:(c j).w with
       |true=>
        rw[conflict_comm] at hcf;rcases conflict_w hcf hWj with h|⟨l,ls,hl,⟨b0,q0,h,_⟩|⟨s,h,hsl⟩⟩
        ·exact hiP h
        ·exact hiR b0 q0 h
        ·have hss:=(H.op i hi).sl s h;rcases hori with hbi|⟨hF,_⟩
         ·rw[hbi,←hss] at hm2;exact hm2 (((H.op j hjn).keep l ls hl).2 s hsl)
         ·rw[h] at hF;cases hF
       |false=>
        obtain⟨hjP,_,horj⟩:=H.mod hjn hm2 hWj;rcases hori with hbi|⟨hFi,_,hni,_⟩
        ·rcases horj with hbj|⟨hFj,_,_,y,hy,hyb,hyn⟩
         ·omega
         ·have:=hkill j hjn hd hFj y hy hyn i hi (by rw[hyb,hbi]);rw[hno] at this;cases this
        ·rcases horj with hbj|⟨hFj,_⟩
         ·rw[hbj,H.unborn hjn i (by omega)] at hni;exact hni rfl
         ·rw[hFi,hFj] at hcf;simp[conflict] at hcf
     rw[hgm] at hb;by_cases hW:(c i).w=true
     ·rw[if_pos hW];exact mg_le hb
     ·rw[if_neg hW];obtain⟨_,h2,_⟩:=hop.quiet (by simpa using hW)
      have hin:∃y∈u i,y.1=b:=by
       by_cases hh:∃y∈u i,y.1=b
       ·exact hh
       ·exact absurd (by rw[h2,upds_notin _ _ _ fun y hy e=>hh ⟨y,hy,e⟩]) hmod
      rw[upds_in (u i) _ (σs i).h b hin,←h2];exact hb
   by_cases hW:(c i).w=true
   ·refine(e9 hW).lessm fun b o' p hm hb=>?_
    have:=key b o' p hm hb;rwa[if_pos hW] at this
   ·refine(e8 (by simpa using hW)).lessm fun b o' p hm hb=>?_
    have:=key b o' p hm hb;rwa[if_neg hW] at this
def unl (D:Nat→Bool):Nat→Nat
 |0=>0
 |k+1=>unl D k+if D k then 0 else 1
theorem unl_more {i:Nat} (hi:D i=false):∀k,unl (more D i) k+(if i<k then 1 else 0)=unl D k
 |0=>rfl
 |k+1=>by
  have ih:=unl_more hi k;simp only[unl];by_cases hk:k=i
  ·subst hk;have:¬(k<k):=Nat.lt_irrefl _;rw[if_neg this] at ih;simp[more,hi];omega
  ·have h1:more D i k=D k:=by simp[more,hk]
   rw[h1];by_cases h2:i<k
   ·have e:(if i<k+1 then 1 else 0)=1:=if_pos (by omega);rw[if_pos h2] at ih;rw[e];omega
   ·have e:(if i<k+1 then 1 else 0)=0:=if_neg (by omega);rw[if_neg h2] at ih;rw[e];omega
theorem unl_zero:∀k,unl D k=0→∀j,j<k→D j=true
 |0,_,j,h=>by omega
 |k+1,h,j,hj=>by
  simp only[unl] at h;by_cases hjk:j=k
  ·subst hjk;cases hd:D j<;>simp[hd] at h ⊢
  ·exact unl_zero k (by omega) j (by omega)
theorem draw_any (ro:Option Nat) (H:Rec P N ops n0 n σs c o v u) {w0:World} {S0 F:Nat→Prop} {m0:Pm} {a0:Act} {Q:Exit→Act→World→Prop}
  (hQ:∀D a w,(∀j,j<n→D j=true)→Inv P N n0 n σs c o u w0 S0 F m0 a0 D a w→Q .normal a w):
  ∀(fuel:Nat) (listed:Array Bool) (a:Act) (w:World),listed.size=n→Inv P N n0 n σs c o u w0 S0 F m0 a0 (fun j=>listed.getD j false) a w→unl (fun j=>listed.getD j false) n≤fuel→
   wpAnyIn (wd ro) 0 P .any ops Q fuel listed a w:=by
 have rdy:∀(listed:Array Bool) (i:Nat),listed.size=n→i∈Region.ready .any ops listed→i<n∧listed.getD i false=false∧∀p∈preds (o i),listed.getD p false=true:=by
  intro listed i hs hi;obtain⟨h1,oi,h2,h3⟩:=mem_ready.1 hi;have hin:i<n:=by rw[←H.size];exact(Array.getElem?_eq_some_iff.1 h2).1
  have ho:oi=o i:=by have:=(H.op i hin).op;rw[h2] at this;exact Option.some.inj this
  subst ho;refine⟨hin, ?_,fun p hp=>?_⟩
  ·have:i<listed.size:=by omega
   simp[this] at h1 ⊢;exact h1
  ·unfold preds at hp;rw[List.mem_filterMap] at hp;obtain⟨e,he,hb⟩:=hp;split at hb
   ·rename_i hbind
    simp only[Option.some.injEq] at hb;subst hb;exact h3 e (by simpa using he) hbind
   ·cases hb
 have all:∀(listed:Array Bool),listed.size=n→Region.ready .any ops listed=[]→∀j,j<n→listed.getD j false=true:=by
  intro listed hs hr j
  induction j using Nat.strongRecOn with
  |_ j ih=>
   intro hj
   cases hd:listed.getD j false with
   |true=>rfl
   |false=>
    exfalso
    have:j∈Region.ready .any ops listed:=by
     rw[mem_ready];have hlt:j<listed.size:=by omega
     refine⟨by simp[hlt] at hd ⊢;exact hd,o j,(H.op j hj).op,fun e he hb=>?_⟩
     have hp:e.on∈preds (o j):=by
      unfold preds;rw[List.mem_filterMap];exact⟨e,by simpa using he,by rw[if_pos hb]⟩
     have:=H.preds j hj _ hp;exact ih e.on this (by omega)
    rw[hr] at this;cases this
 intro fuel
 induction fuel with
 |zero=>
  intro listed a w hs hI hu;have ha:=unl_zero n (by omega:unl (fun j=>listed.getD j false) n=0);refine⟨?_,hQ _ a w ha hI⟩
  cases hr:Region.ready .any ops listed with
  |nil=>rfl
  |cons i l=>
   obtain⟨h1,h2,_⟩:=rdy listed i hs (by rw[hr];simp);have:=ha i h1;rw[h2] at this;cases this
 |succ fuel ih=>
  intro listed a w hs hI hu;refine⟨fun hr=>hQ _ a w (all listed hs hr) hI,fun i hi=>?_⟩;obtain⟨h1,h2,h3⟩:=rdy listed i hs hi;refine hI.step H h1 h2 h3 (fun a' w' hI'=>?_) ro
  have hD:(fun j=>(listed.setIfInBounds i true).getD j false)=more (fun j=>listed.getD j false) i:=by
   funext j;by_cases hji:j=i
   ·subst hji;have:j<listed.size:=by omega
    simp[more,this]
   ·have:=getD_set_ne (listed:=listed) false (Ne.symm hji);rw[this];simp[more,hji]
  refine ih _ a' w' (by simpa using hs) (by rw[hD];exact hI') ?_;rw[hD];have:=unl_more (D:=fun j=>listed.getD j false) h2 n;rw[if_pos h1] at this;omega
end
end Go.Av
namespace Go.Av
def CQ (P:Program) (N:Nat) (e:AEx) (t':Fr) (h':Heap) (n':Nat) (w:World) (S F:Nat→Prop) (m:Pm) (n:Nat) (a:Act):Exit→Act→World→Prop:=
 fun ex a' w'=>ExR e ex∧∃S' m',St w S F m n w' S' m' n'∧TR w' S' m' N t' a'∧Rel w' S' F m' h'∧a'.defers=a.defers
def AbsS (h:Heap) (n:Nat) (h':Heap) (n':Nat):Prop:=n≤n'∧(∀b,b<n→h b=none→h' b=none)∧((∀b,n≤b→h b=none)→∀b,n'≤b→h' b=none)
theorem AbsS.refl (h:Heap) (n:Nat):AbsS h n h n:=⟨Nat.le_refl _,fun _ _ h=>h,fun h=>h⟩
theorem AbsS.trans {h h1 h2:Heap} {n n1 n2:Nat} (a:AbsS h n h1 n1) (b:AbsS h1 n1 h2 n2):AbsS h n h2 n2:=
 ⟨Nat.le_trans a.1 b.1,fun x hx hh=>b.2.1 x (Nat.lt_of_lt_of_le hx a.1) (a.2.1 x hx hh),fun hf=>b.2.2 (a.2.2 hf)⟩
theorem St.trans {w w1 w2:World} {S S1 S2 F:Nat→Prop} {m m1 m2:Pm} {n n1 n2:Nat} (a:St w S F m n w1 S1 m1 n1) (b:St w1 S1 F m1 n1 w2 S2 m2 n2) (h:n≤n1):St w S F m n w2 S2 m2 n2:=
 ⟨a.ext.trans b.ext fun k hk=>hk.imp (a.grow k) id,fun k hk=>b.grow k (a.grow k hk),fun k hk=>(b.new k hk).elim (a.new k) fun h=> .inr (Nat.le_trans a.ext.size h),
  fun x p hx=>b.le x p (a.le x p hx),fun x hx=>(b.old x (Nat.lt_of_lt_of_le hx h)).trans (a.old x hx),b.free⟩
def Pre (N:Nat) (t:Fr) (h:Heap) (n:Nat) (w:World) (S F:Nat→Prop) (m:Pm) (a:Act):Prop:=
 (∀b,n≤b→h b=none)∧Rel w S F m h∧TR w S m N t a∧∀b,n≤b→m b=none
def CodeS (P:Program) (N:Nat) (c:Code) (t:Fr) (h:Heap) (n:Nat) (e:AEx) (t':Fr) (h':Heap) (n':Nat):Prop:=
 AbsS h n h' n'∧(∀w S F m a,Pre N t h n w S F m a→∀ro,c.wpIn (wd ro) 0 P (CQ P N e t' h' n' w S F m n a) a w)∧
  ∀body,c=.loop body→∃r,∀w S F m a,Pre N t h n w S F m a→∀ro,Code.roundsIn (wd ro) 0 P body (CQ P N e t' h' n' w S F m n a) r a w
def ScpS (P:Program) (N:Nat) (body c:Code) (t:Fr) (h:Heap) (n:Nat) (e:AEx) (t':Fr) (h':Heap) (n':Nat):Prop:=
 AbsS h n h' n'∧∀w S F m a,Pre N t h n w S F m a→∀(ro:Option Nat) (b:Frame) (k:List Item) (cs:List Frame),b.roundOf=(wd ro).round→(wd ro).fn b.fn→(wd ro).room (cs.length+1+0)→
  ∃ex a' w',CQ P N e t' h' n' w S F m n a ex a' w'∧ArrivesIn (Machine.fenced P (wd ro)) P (lone (b.atR a (.code c::.inScope body::k)) cs w) b k cs ex a' w'
def Snd (P:Program):Job→Prop
 | .code N c t h n e t' h' n'=>CodeS P N c t h n e t' h' n'
 | .scp N body c t h n e t' h' n'=>ScpS P N body c t h n e t' h' n'
 | .op N ops n0 i σ c σ'=>OpS P N ops n0 i σ c σ'
 | .ops N ops n0 l σ cs σ'=>OpsS P N ops n0 l σ cs σ'
 | .fn f args h n res h' n'=>FnS P f args h n res h' n'
inductive Big (P:Program) (Θ:Tab):Job→Prop
 -- an operation
 |skip {N ops n0 i t h x o} (ho:ops[i]?=some o) (hg:gd ops t o=some false) (hd:inN N o.dst=true):
   Big P Θ (.op N ops n0 i ⟨t,h,x⟩ .P ⟨put t o.dst (.tup []),h,x⟩)
 |plain {N ops n0 i t h x o c v u} (ho:ops[i]?=some o) (hg:gd ops t o=some true) (hd:inN N o.dst=true)
   (hop:aop Θ o.op t h n0 (n0+i)=some (c,v,u)):
   Big P Θ (.op N ops n0 i ⟨t,h,x⟩ c ⟨put t o.dst v,upds h u,x⟩)
 |callH {N ops n0 i t h x o cl f g caps as res h' x'} (ho:ops[i]?=some o) (hg:gd ops t o=some true) (hd:inN N o.dst=true)
   (hop:o.op=.call cl) (hc:cl.callee=.value f) (hf:ev t f=some (.fn g caps)) (ha:evs t cl.args.toList=some as)
   (hb:Big P Θ (.fn g (as++caps) h x res h' x')):
   Big P Θ (.op N ops n0 i ⟨t,h,x⟩ .W ⟨put t o.dst res,h',x'⟩)
 |callP {N ops n0 i t h x o cl f g caps as as' res res' h1 x1 d d'} (live:Bool) (ho:ops[i]?=some o) (hg:gd ops t o=some true) (hd:inN N o.dst=true)
   (hop:o.op=.call cl) (hc:cl.callee=.value f) (hf:ev t f=some (.fn g caps)) (ha:evs t cl.args.toList=some as)
   (hr:rfs true d (if live then h else h0) (as++caps)=some as') (hb:Big P Θ (.fn g as' h0 0 res h1 x1))
   (hr':rf (!live) d' h1 res=some res'):
   Big P Θ (.op N ops n0 i ⟨t,h,x⟩ (if live then .Q else .L) ⟨put t o.dst res',h,x⟩)
 |callT {N ops n0 i t h x o cl f g caps as as' b len sz es es' h1 x1 d d'} (live:Bool) (ho:ops[i]?=some o) (hg:gd ops t o=some true) (hd:inN N o.dst=true)
   (hop:o.op=.call cl) (hc:cl.callee=.value f) (hf:ev t f=some (.fn g caps)) (ha:evs t cl.args.toList=some as)
   (hr:rfs true d (if live then h else h0) (as++caps)=some as') (hb:Big P Θ (.fn g as' h0 0 (.sl b 0 len sz) h1 x1))
   (hh:h1 b=some (.cells es)) (hl:len=es.length) (hr':rfe (!live) d' (upd h1 b none) es=some es'):
   Big P Θ (.op N ops n0 i ⟨t,h,x⟩ (if live then .Q else .L) ⟨put t o.dst (.sl (n0+i) 0 len sz),upd h (n0+i) (some (.cells es')),x⟩)
 |semO {N ops n0 i σ c σ'} (h:OpS P N ops n0 i σ c σ'):Big P Θ (.op N ops n0 i σ c σ')
 |semC {N c t h n e t' h' n'} (hs:CodeS P N c t h n e t' h' n'):Big P Θ (.code N c t h n e t' h' n')
 |semF {f args h n res h' n'} (hs:FnS P f args h n res h' n'):Big P Θ (.fn f args h n res h' n')
 |nil {N ops n0 σ}:Big P Θ (.ops N ops n0 [] σ [] σ)
 |cons {N ops n0 i l σ c σ1 cs σ2} (h1:Big P Θ (.op N ops n0 i σ c σ1)) (h2:Big P Θ (.ops N ops n0 l σ1 cs σ2)):
   Big P Θ (.ops N ops n0 (i::l) σ (c::cs) σ2)
 -- code
 |cskip {N t h n}:Big P Θ (.code N .skip t h n .normal t h n)
 |label {N l t h n}:Big P Θ (.code N (.label l) t h n .normal t h n)
 |exit {N id t h n}:Big P Θ (.code N (.exit id) t h n (.exit id) t h n)
 |goto {N l t h n}:Big P Θ (.code N (.goto l) t h n (.goto l) t h n)
 |ret {N t h n}:Big P Θ (.code N .ret t h n .ret t h n)
 |region {N id ops draw t h n cs t' h' n'} (hb:Big P Θ (.ops N ops n (List.range ops.size) ⟨t,h,n+ops.size⟩ cs ⟨t',h',n'⟩))
   (hd:draw=true→drawOK ops cs=true):Big P Θ (.code N (.region id ops draw) t h n .normal t' h' n')
 |seq {N a b t h n t1 h1 n1 e t' h' n'} (ha:Big P Θ (.code N a t h n .normal t1 h1 n1)) (hb:Big P Θ (.code N b t1 h1 n1 e t' h' n')):
   Big P Θ (.code N (.seq a b) t h n e t' h' n')
 |seqx {N a b t h n e t' h' n'} (he:e≠.normal) (ha:Big P Θ (.code N a t h n e t' h' n')):Big P Θ (.code N (.seq a b) t h n e t' h' n')
 |condT {N c a b t h n e t' h' n'} (hc:ev t c=some (.bool true)) (ha:Big P Θ (.code N a t h n e t' h' n')):Big P Θ (.code N (.cond c a b) t h n e t' h' n')
 |condF {N c a b t h n e t' h' n'} (hc:ev t c=some (.bool false)) (hb:Big P Θ (.code N b t h n e t' h' n')):Big P Θ (.code N (.cond c a b) t h n e t' h' n')
 |block {N id c t h n t' h' n'} (hc:Big P Θ (.code N c t h n .normal t' h' n')):Big P Θ (.code N (.block id c) t h n .normal t' h' n')
 |blockX {N id c t h n t' h' n'} (hc:Big P Θ (.code N c t h n (.exit id) t' h' n')):Big P Θ (.code N (.block id c) t h n .normal t' h' n')
 |blockE {N id c t h n e t' h' n'} (he:e≠.normal) (he':e≠.exit id) (hc:Big P Θ (.code N c t h n e t' h' n')):Big P Θ (.code N (.block id c) t h n e t' h' n')
 |loop {N c t h n t1 h1 n1 e t' h' n'} (hc:Big P Θ (.code N c t h n .normal t1 h1 n1)) (hl:Big P Θ (.code N (.loop c) t1 h1 n1 e t' h' n')):
   Big P Θ (.code N (.loop c) t h n e t' h' n')
 |loopE {N c t h n e t' h' n'} (he:e≠.normal) (hc:Big P Θ (.code N c t h n e t' h' n')):Big P Θ (.code N (.loop c) t h n e t' h' n')
 |scope {N c t h n e t' h' n'} (hc:Big P Θ (.scp N c c t h n e t' h' n')):Big P Θ (.code N (.scope c) t h n e t' h' n')
 |scpD {N body c t h n e t' h' n'} (he:∀l,e≠.goto l) (hc:Big P Θ (.code N c t h n e t' h' n')):Big P Θ (.scp N body c t h n e t' h' n')
 |scpG {N body c rest l t h n t1 h1 n1 e t' h' n'} (hc:Big P Θ (.code N c t h n (.goto l) t1 h1 n1)) (hf:findLabel body l=some rest)
   (hr:Big P Θ (.scp N body rest t1 h1 n1 e t' h' n')):Big P Θ (.scp N body c t h n e t' h' n')
 |forget {N c t h n t1 h1 e t' h' n'} (ht:∀x,t1 x=t x∨t1 x=.any) (hh:∀b,h1 b=h b∨h1 b=none) (hc:Big P Θ (.code N c t1 h1 n e t' h' n')):
   Big P Θ (.code N c t h n e t' h' n')
 -- a function
 |fn {f fn c args h n e t' h' n' res} (hf:P.funcs[f]?=some fn) (hb:fn.body=some c) (hN:args.length≤fn.ntmps) (hn:fn.name≠ "runtime.NumGoroutine")
   (hc:Big P Θ (.code fn.ntmps c (fr0 args) h n e t' h' n')) (he:e=.normal∨e=.ret) (hr:ares Θ fn.results t' h'=some res):
   Big P Θ (.fn f args h n res h' n')
theorem opsS_states {P:Program} {N:Nat} {ops:Array Oper} {n0:Nat}:∀(k s:Nat) (σ:OS) (cs:List Cls) (σ':OS),OpsS P N ops n0 (List.range' s k) σ cs σ'→
  ∃σs:Nat→OS,σs s=σ∧σs (s+k)=σ'∧cs.length=k∧∀j,j<k→OpS P N ops n0 (s+j) (σs (s+j)) (cs.getD j .W) (σs (s+j+1))
 |0,s,σ,[],σ',h=>by cases h;exact⟨fun _=>σ,rfl,rfl,rfl,fun j hj=>by omega⟩
 |0,s,σ,_::_,σ',h=>h.elim
 |k+1,s,σ,[],σ',h=>h.elim
 |k+1,s,σ,c::cs,σ',h=>by
  rw[List.range'_succ] at h;obtain⟨σ1,h1,h2⟩:=h;obtain⟨σs,e1,e2,e3,e4⟩:=opsS_states k (s+1) σ1 cs σ' h2;refine⟨fun x=>if x≤s then σ else σs x,by simp, ?_,by simp[e3],fun j hj=>?_⟩
  ·have:¬(s+(k+1)≤s):=by omega
   simp only[this,if_false];rw[←e2];congr 1;omega
  ·cases j with
   |zero=>
    have:¬(s+0+1≤s):=by omega
    simp only[Nat.add_zero,Nat.le_refl,if_true];rw[if_neg (by omega),e1];exact h1
   |succ j=>
    have:=e4 j (by omega);have n1:¬(s+(j+1)≤s):=by omega
    have n2:¬(s+(j+1)+1≤s):=by omega
    simp only[n1,n2,if_false];rw[show s+(j+1)=s+1+j by omega];exact this
section
variable {P:Program} {Θ:Tab} {N:Nat}
theorem region_abs {ops:Array Oper} {t:Fr} {h:Heap} {n:Nat} {cs:List Cls} {t':Fr} {h':Heap} {n':Nat} (hb:OpsS P N ops n (List.range ops.size) ⟨t,h,n+ops.size⟩ cs ⟨t',h',n'⟩):AbsS h n h' n':=by
 obtain⟨⟨h1,h2,h3⟩,_⟩:=seq_ops _ _ _ _ hb List.nodup_range (fun i hi=>by have:=List.mem_range.1 hi;simp only;omega);exact⟨by simp only at h1;omega,fun b hb hh=>h2 b (fun i _=>by omega) (by simp only;omega) hh,fun hf=>h3 fun b hb=>hf b (by simp only at hb;omega)⟩
theorem region_seq {id:Nat} {ops:Array Oper} {t:Fr} {h:Heap} {n:Nat} {cs:List Cls} {t':Fr} {h':Heap} {n':Nat} (hb:OpsS P N ops n (List.range ops.size) ⟨t,h,n+ops.size⟩ cs ⟨t',h',n'⟩)
  {w:World} {S F:Nat→Prop} {m:Pm} {a:Act} (hp:Pre N t h n w S F m a) (ro:Option Nat):(Code.region id ops false).wpIn (wd ro) 0 P (CQ P N .normal t' h' n' w S F m n a) a w:=by
 obtain⟨p1,p2,p3,p4⟩:=hp;refine wpIn_region ?_;obtain⟨_,hs⟩:=seq_ops _ _ _ _ hb List.nodup_range (fun i hi=>by have:=List.mem_range.1 hi;simp only;omega);refine hs ro w S F m a _ (fun b hb=>p1 b (by simp only at hb;omega)) p2 p3 (fun i _=>p4 _ (by omega)) (fun b hb=>p4 b (by simp only at hb;omega)) fun a' w' S' m' e1 e2 e3 e4 e5 e6 e7 e8 e9=>?_
 exact⟨trivial,S',m',⟨e1,e2,e3,e4,fun b hb=>e5 b (fun i _=>by omega) (by simp only;omega),e6⟩,e7,e8,e9⟩
theorem region_draw (hm:P.follows .mixedOrders=true) {id:Nat} {ops:Array Oper} {t:Fr} {h:Heap} {n:Nat} {cs:List Cls} {t':Fr} {h':Heap} {n':Nat}
  (hb:OpsS P N ops n (List.range ops.size) ⟨t,h,n+ops.size⟩ cs ⟨t',h',n'⟩) (hd:drawOK ops cs=true) {w:World} {S F:Nat→Prop} {m:Pm} {a:Act} (hp:Pre N t h n w S F m a) (ro:Option Nat):
  (Code.region id ops true).wpIn (wd ro) 0 P (CQ P N .normal t' h' n' w S F m n a) a w:=by
 obtain⟨p1,p2,p3,p4⟩:=hp;rw[List.range_eq_range'] at hb;obtain⟨σs,s1,s2,s3,s4⟩:=opsS_states _ _ _ _ _ hb;simp only[Nat.zero_add] at s2 s4;obtain⟨d1,d2⟩:=drawOK_spec hd
 have hch:∀i:Nat,∃x:Oper×AV×Upd,i<ops.size→OpS1 P N ops n i (σs i) (cs.getD i .W) (σs (i+1)) x.1 x.2.1 x.2.2:=by
  intro i;by_cases hi:i<ops.size
  ·obtain⟨o,v,u,hx⟩:=s4 i hi;exact⟨(o,v,u),fun _=>hx⟩
  ·exact⟨default,fun h=>absurd h hi⟩
 obtain⟨x,hx⟩:=Classical.skolem.1 hch
 have H:Rec P N ops n ops.size σs (fun i=>cs.getD i .W) (fun i=>(x i).1) (fun i=>(x i).2.1) (fun i=>(x i).2.2):=by
  refine⟨fun i hi=>hx i hi,by rw[s1],fun b hb=>by rw[s1];exact p1 b hb,rfl,fun i hi=>d1 i _ (hx i hi).op,fun i j hij hj=>d2 i j _ _ (hx i (by omega)).op (hx j hj).op hij⟩
 refine wpIn_region_any hm ?_;have hw:({ w with drawn:=w.drawn+1 }:World)=w.drew:=rfl;rw[hw];have he:Ext (fun k=>S k∨F k) w w.drew:=(ext_drew w).old p2;refine draw_any ro (w0:=w) (S0:=S) (F:=F) (m0:=m) (a0:=a) H (fun D a' w' hall hI=>?_) ops.size (Array.replicate ops.size false) a w.drew (by simp) ?_ ?_
 ·obtain⟨_,_,S',m',i1,i2,i3,i4,i5,i6,i7,i8,i9,i10⟩:=hI;have eg:∀b,gD σs D ops.size b=h' b:=fun b=>by rw[gD_eq1 b ops.size fun j hj _=>hall j hj,s2]
  have et:∀y,tD σs (fun i=>(x i).1) D ops.size y=t' y:=fun y=>by rw[tD_eq1 H y ops.size (Nat.le_refl _) fun j hj _=>hall j hj,s2]
  have ex:xD σs (fun i=>cs.getD i .W) D ops.size=n':=by rw[xD_eq1 H ops.size (Nat.le_refl _) fun j hj _=>hall j hj,s2]
  refine⟨trivial,S',m',⟨i1,i2,i3,i4,i5,fun b hb=>i7 b (by rw[ex];exact hb)⟩,⟨i8.1,fun y=>by rw[←et];exact i8.2 y⟩, ?_,i10⟩;have:gD σs D ops.size=h':=funext eg;rw[←this];exact i9
 ·have hD:∀j,(Array.replicate ops.size false).getD j false=false:=fun j=>by
   by_cases hj:j<ops.size<;>simp[hj]
  have eg:∀b,gD σs (fun j=>(Array.replicate ops.size false).getD j false) ops.size b=h b:=fun b=>by
   rw[gD_eq2 b 0 ops.size (by omega) fun j _ _ hd=>by rw[hD j] at hd;cases hd];simp only[gD];rw[s1]
  have et:∀y,tD σs (fun i=>(x i).1) (fun j=>(Array.replicate ops.size false).getD j false) ops.size y=t y:=fun y=>by
   rw[tD_eq2 y 0 ops.size (by omega) fun j _ _ hd=>by rw[hD j] at hd;cases hd];simp only[tD];rw[s1]
  have ex:xD σs (fun i=>cs.getD i .W) (fun j=>(Array.replicate ops.size false).getD j false) ops.size=n+ops.size:=by
   rw[xD_eq2 0 ops.size (by omega) fun j _ _ hd=>by rw[hD j] at hd;cases hd];simp only[xD];rw[s1]
  have hg:gD σs (fun j=>(Array.replicate ops.size false).getD j false) ops.size=h:=funext eg
  refine⟨(fun j _ hd=>absurd ((hD j).symm.trans hd) (by simp)),(fun k _ hd=>absurd ((hD k).symm.trans hd) (by simp)),S,m,he,fun _ h=>h,fun _ h=> .inl h,fun _ _ h=>h,fun _ _=>rfl,fun i _ _=>p4 _ (by omega),
   fun b hb=>p4 b (by rw[ex] at hb;omega),⟨p3.1,fun y=>by rw[et];exact(p3.2 y).mono (he.mono fun k hk=> .inl hk) (fun _ h=>h) (fun _ _ h=>h)⟩,by rw[hg];exact p2.drew,rfl⟩
 ·have:∀k,unl (fun j=>(Array.replicate ops.size false).getD j false) k≤k:=by
   intro k
   induction k with
   |zero=>exact Nat.le_refl _
   |succ k ih=>simp only[unl];split<;>omega
  exact this _
end
end Go.Av
namespace Go.Av
section
variable {P:Program} {Θ:Tab} {N:Nat}
theorem ExR.normal {ex:Exit} (h:ExR .normal ex):ex=.normal:=by cases ex<;>simp_all [ExR]
theorem ExR.goto {i:Nat} {ex:Exit} (h:ExR (.goto i) ex):ex=.goto i:=by cases ex<;>simp_all [ExR]
theorem ExR.ne {e:AEx} {ex:Exit} (h:ExR e ex) (he:e≠.normal):ex≠.normal:=by rintro rfl;cases e<;>simp_all [ExR]
theorem CQ.pre {e:AEx} {t t1:Fr} {h h1:Heap} {n n1:Nat} {w w1:World} {S F:Nat→Prop} {m:Pm} {a a1:Act} {ex:Exit} (hp:Pre N t h n w S F m a) (ha:AbsS h n h1 n1)
  (hq:CQ P N e t1 h1 n1 w S F m n a ex a1 w1):∃S1 m1,St w S F m n w1 S1 m1 n1∧Pre N t1 h1 n1 w1 S1 F m1 a1∧a1.defers=a.defers:=by
 obtain⟨_,S1,m1,k1,k2,k3,k4⟩:=hq;exact⟨S1,m1,k1,⟨ha.2.2 hp.1,k3,k2,k1.free⟩,k4⟩
theorem CQ.comp {e:AEx} {t':Fr} {h':Heap} {n n1 n':Nat} {w w1 w':World} {S S1 F:Nat→Prop} {m m1:Pm} {a a1 a':Act} {ex:Exit} (hs:St w S F m n w1 S1 m1 n1) (hn:n≤n1) (hd:a1.defers=a.defers)
  (hq:CQ P N e t' h' n' w1 S1 F m1 n1 a1 ex a' w'):CQ P N e t' h' n' w S F m n a ex a' w':=by
 obtain⟨k0,S2,m2,k1,k2,k3,k4⟩:=hq;exact⟨k0,S2,m2,hs.trans k1 hn,k2,k3,k4.trans hd⟩
theorem CQ.ex {e e':AEx} {t':Fr} {h':Heap} {n n':Nat} {w w':World} {S F:Nat→Prop} {m:Pm} {a a':Act} {ex ex':Exit}
  (hq:CQ P N e t' h' n' w S F m n a ex a' w') (hx:ExR e' ex'):CQ P N e' t' h' n' w S F m n a ex' a' w':=⟨hx,hq.2⟩
theorem ev_bool {w:World} {S:Nat→Prop} {m:Pm} {t:Fr} {a:Act} {c:Operand} {b:Bool} (hG:GL w S) (h:TR w S m N t a) (hc:ev t c=some (.bool b)):a.eval c=.bool b:=by
 have:=EV.of (w:=w) (S:=S) (m:=m) (t:=t) (a:=a) (x:=c) hG (fun i _=>h.2 i) _ hc;generalize a.eval c=v at this ⊢;cases this;rfl
theorem St.rfl {w:World} {S F:Nat→Prop} {m:Pm} {n:Nat} (h:∀b,n≤b→m b=none):St w S F m n w S m n:=
 ⟨Ext.refl _ _,fun _ h=>h,fun _ h=> .inl h,fun _ _ h=>h,fun _ _=>Eq.refl _,h⟩
theorem snd_seq {x y:Code} {t t1 t':Fr} {h h1 h':Heap} {n n1 n':Nat} {e:AEx} (ha:CodeS P N x t h n .normal t1 h1 n1) (hb:CodeS P N y t1 h1 n1 e t' h' n'):CodeS P N (.seq x y) t h n e t' h' n':=by
 refine⟨ha.1.trans hb.1,fun w S F m a hp ro=>?_,fun body hc=>by cases hc⟩;refine wpIn_seq (wpIn_mono (ha.2.1 w S F m a hp ro) fun ex a1 w1 hq=>?_);obtain rfl:=ExR.normal hq.1;obtain⟨S1,m1,k1,k2,k3⟩:=hq.pre hp ha.1;exact wpIn_mono (hb.2.1 w1 S1 F m1 a1 k2 ro) fun ex a' w' hq'=>CQ.comp k1 ha.1.1 k3 hq'
theorem snd_seqx {x y:Code} {t t':Fr} {h h':Heap} {n n':Nat} {e:AEx} (he:e≠.normal) (ha:CodeS P N x t h n e t' h' n'):CodeS P N (.seq x y) t h n e t' h' n':=by
 refine⟨ha.1,fun w S F m a hp ro=>?_,fun body hc=>by cases hc⟩;refine wpIn_seq (wpIn_mono (ha.2.1 w S F m a hp ro) fun ex a1 w1 hq=>?_);have:=hq.1.ne he
 cases ex with
 |normal=>exact absurd rfl this
 |_=>exact hq
theorem rounds_mono {c:Code} {Q Q':Exit→Act→World→Prop} (hq:∀e a w,Q e a w→Q' e a w):∀(ro:Option Nat) (r:Nat) (a:Act) (w:World),Code.roundsIn (wd ro) 0 P c Q r a w→Code.roundsIn (wd ro) 0 P c Q' r a w
 |_,0,_,_,h=>h.elim
 |ro,r+1,a,w,h=>by
  rw[roundsIn_succ] at h ⊢;refine wpIn_mono h fun ex a' w' h'=>?_
  cases ex with
  |normal=>exact rounds_mono hq ro r a' w' h'
  |_=>exact hq _ _ _ h'
theorem snd_loop {c:Code} {t t1 t':Fr} {h h1 h':Heap} {n n1 n':Nat} {e:AEx} (ha:CodeS P N c t h n .normal t1 h1 n1) (hb:CodeS P N (.loop c) t1 h1 n1 e t' h' n'):CodeS P N (.loop c) t h n e t' h' n':=by
 obtain⟨r,hr⟩:=hb.2.2 c rfl
 have key:∀w S F m a,Pre N t h n w S F m a→∀ro,Code.roundsIn (wd ro) 0 P c (CQ P N e t' h' n' w S F m n a) (r+1) a w:=by
  intro w S F m a hp ro;rw[roundsIn_succ];refine wpIn_mono (ha.2.1 w S F m a hp ro) fun ex a1 w1 hq=>?_
  obtain rfl:=ExR.normal hq.1;obtain⟨S1,m1,k1,k2,k3⟩:=hq.pre hp ha.1;have:=hr w1 S1 F m1 a1 k2 ro;exact rounds_mono (fun ex a' w' hq'=>CQ.comp k1 ha.1.1 k3 hq') ro r a1 w1 this
 exact⟨ha.1.trans hb.1,fun w S F m a hp ro=>wpIn_loop_rounds _ (key w S F m a hp ro),fun body hc=>by cases hc;exact⟨r+1,key⟩⟩
theorem snd_loopE {c:Code} {t t':Fr} {h h':Heap} {n n':Nat} {e:AEx} (he:e≠.normal) (ha:CodeS P N c t h n e t' h' n'):CodeS P N (.loop c) t h n e t' h' n':=by
 have key:∀w S F m a,Pre N t h n w S F m a→∀ro,Code.roundsIn (wd ro) 0 P c (CQ P N e t' h' n' w S F m n a) 1 a w:=by
  intro w S F m a hp ro;rw[roundsIn_succ];refine wpIn_mono (ha.2.1 w S F m a hp ro) fun ex a1 w1 hq=>?_
  have:=hq.1.ne he
  cases ex with
  |normal=>exact absurd rfl this
  |_=>exact hq
 exact⟨ha.1,fun w S F m a hp ro=>wpIn_loop_rounds _ (key w S F m a hp ro),fun body hc=>by cases hc;exact⟨1,key⟩⟩
theorem snd_block {id:Nat} {c:Code} {t t':Fr} {h h':Heap} {n n':Nat} {e e':AEx} (he:e=.normal∧e'=.normal∨e=.exit id∧e'=.normal∨e≠.exit id∧e'=e)
  (ha:CodeS P N c t h n e t' h' n'):CodeS P N (.block id c) t h n e' t' h' n':=by
 refine⟨ha.1,fun w S F m a hp ro=>?_,fun body hc=>by cases hc⟩;refine wpIn_block (wpIn_mono (ha.2.1 w S F m a hp ro) fun ex a1 w1 hq=>?_)
 cases ex with
 |exit j=>
  simp only[Exit.inBlock];split
  ·rename_i hj;subst hj
   rcases he with ⟨rfl,rfl⟩|⟨rfl,rfl⟩|⟨h1,rfl⟩
   ·exact absurd hq.1 (by simp[ExR])
   ·exact hq.ex trivial
   ·have:=hq.1;cases e'<;>simp[ExR] at this
    subst this;exact absurd rfl h1
  ·rename_i hj
   rcases he with ⟨rfl,rfl⟩|⟨rfl,rfl⟩|⟨h1,rfl⟩
   ·exact absurd hq.1 (by simp[ExR])
   ·exact absurd hq.1.symm hj
   ·exact hq
 |normal=>
  rcases he with ⟨rfl,rfl⟩|⟨rfl,rfl⟩|⟨h1,rfl⟩
  ·exact hq
  ·exact absurd hq.1 (by simp[ExR])
  ·exact hq
 |_=>
  rcases he with ⟨rfl,rfl⟩|⟨rfl,rfl⟩|⟨h1,rfl⟩
  ·exact absurd hq.1 (by simp[ExR])
  ·exact absurd hq.1 (by simp[ExR])
  ·exact hq
theorem stepR_scope {b:Frame} {a:Act} {k:List Item} {cs:List Frame} {w:World} {c:Code}:step P (lone (b.atR a (.code (.scope c)::k)) cs w)=.next (lone (b.atR a (.code c::.inScope c::k)) cs w):=
 step_lone_go (by simp[stepG,stepG.exec,Frame.atR])
theorem stepR_inScope {b:Frame} {a:Act} {k:List Item} {cs:List Frame} {w:World} {c:Code}:step P (lone (b.atR a (.inScope c::k)) cs w)=.next (lone (b.atR a k) cs w):=
 step_lone_go (by simp[stepG,stepG.exec,Frame.atR])
theorem snd_scope {c:Code} {t t':Fr} {h h':Heap} {n n':Nat} {e:AEx} (ha:ScpS P N c c t h n e t' h' n'):CodeS P N (.scope c) t h n e t' h' n':=by
 refine⟨ha.1,fun w S F m a hp ro=>?_,fun body hc=>by cases hc⟩;intro b k cs hb hf hr;obtain⟨ex,a',w',hq,harr⟩:=ha.2 w S F m a hp ro b k cs hb hf hr;exact⟨ex,a',w',hq,.of_steps (.one (fenced_calm (n:=0) hf hr rfl) stepR_scope) harr⟩
theorem snd_scpD {body c:Code} {t t':Fr} {h h':Heap} {n n':Nat} {e:AEx} (he:∀l,e≠.goto l) (ha:CodeS P N c t h n e t' h' n'):ScpS P N body c t h n e t' h' n':=by
 refine⟨ha.1,fun w S F m a hp ro b k cs hb hf hr=>?_⟩;obtain⟨ex,a₁,w₁,hq,harr⟩:=ha.2.1 w S F m a hp ro b (.inScope body::k) cs hb hf hr
 cases ex with
 |normal=>exact⟨.normal,a₁,w₁,hq,StepsIn.trans harr (.one (fenced_calm (n:=0) hf hr rfl) stepR_inScope)⟩
 |exit id=>exact⟨.exit id,a₁,w₁,hq,fun k' hk=>harr.1 k' (by simp[exitTo,hk]),fun hs hk=>harr.2 hs (by simp[exitTo,hk])⟩
 |goto l'=>
  have:=hq.1;cases e<;>simp[ExR] at this
  exact absurd rfl (he _)
 |ret=>exact⟨_,a₁,w₁,hq,harr⟩
 |panic ch=>exact⟨_,a₁,w₁,hq,harr⟩
 |outgrown=>exact⟨_,a₁,w₁,hq,harr⟩
theorem snd_scpG {body c rest:Code} {l:Nat} {t t1 t':Fr} {h h1 h':Heap} {n n1 n':Nat} {e:AEx} (ha:CodeS P N c t h n (.goto l) t1 h1 n1) (hf:findLabel body l=some rest)
  (hr:ScpS P N body rest t1 h1 n1 e t' h' n'):ScpS P N body c t h n e t' h' n':=by
 refine⟨ha.1.trans hr.1,fun w S F m a hp ro b k cs hb hff hrr=>?_⟩;obtain⟨ex,a₁,w₁,hq,harr⟩:=ha.2.1 w S F m a hp ro b (.inScope body::k) cs hb hff hrr;have:=ExR.goto hq.1;subst this;have hg:gotoIn l (.inScope body::k)=some (.code rest::.inScope body::k):=by simp[gotoIn,hf]
 obtain⟨S1,m1,k1,k2,k3⟩:=hq.pre hp ha.1;obtain⟨e₂,a₂,w₂,hq₂,harr₂⟩:=hr.2 w₁ S1 F m1 a₁ k2 ro b k cs hb hff hrr;exact⟨e₂,a₂,w₂,CQ.comp k1 ha.1.1 k3 hq₂,.of_steps (harr.1 _ hg) harr₂⟩
theorem snd_forget {c:Code} {t t1 t':Fr} {h h1 h':Heap} {n n':Nat} {e:AEx} (ht:∀x,t1 x=t x∨t1 x=.any) (hh:∀b,h1 b=h b∨h1 b=none) (ha:CodeS P N c t1 h1 n e t' h' n'):CodeS P N c t h n e t' h' n':=by
 have hn:∀b,h b=none→h1 b=none:=fun b hb=>(hh b).elim (fun h=>h.trans hb) id
 have hp':∀w S F m a,Pre N t h n w S F m a→Pre N t1 h1 n w S F m a:=fun w S F m a hp=>
  ⟨fun b hb=>hn b (hp.1 b hb),hp.2.1.less fun b o hb=>(hh b).elim (fun h=>h▸hb) (fun h=>by rw[h] at hb;cases hb),
   ⟨hp.2.2.1.1,fun x=>(ht x).elim (fun h=>h▸hp.2.2.1.2 x) (fun h=>h▸.any _)⟩,hp.2.2.2⟩
 refine⟨⟨ha.1.1,fun b hb h=>ha.1.2.1 b hb (hn b h),fun hf=>ha.1.2.2 fun b hb=>hn b (hf b hb)⟩,fun w S F m a hp ro=>ha.2.1 w S F m a (hp' _ _ _ _ _ hp) ro,fun body hc=>?_⟩;obtain⟨r,hr⟩:=ha.2.2 body hc;exact⟨r,fun w S F m a hp ro=>hr w S F m a (hp' _ _ _ _ _ hp) ro⟩
theorem ares_list {Θ:Tab} {f:ResultVar→Sem Value} {w:World} {S:Nat→Prop} {m:Pm} {t:Fr} {h:Heap} (hf:∀r v,ares1 Θ t h r=some v→∃u,(f r).run P w=.ok u w∧VR w S m v u):∀(rs:List ResultVar) (vs:List AV),aresL Θ t h rs=some vs→
  ∃us:List Value,(rs.mapM (m:=Sem) f).run P w=.ok us w∧LR w S m vs us
 |[],vs,hr=>by simp only[aresL,Option.some.injEq] at hr;subst hr;exact⟨[],by simp[Sem.run_pure],LR.nil⟩
 |r::rs,vs,hr=>by
  simp only[aresL] at hr;split at hr
  ·rename_i v vs' h1 h2
   simp only[Option.some.injEq] at hr;subst hr;obtain⟨u,hu1,hx⟩:=hf r v h1;obtain⟨us,hu,hL⟩:=ares_list hf rs vs' h2;refine⟨u::us, ?_,LR.cons hx hL⟩;simp only[List.mapM_cons,hu1,Sem.run_bind,Sem.run_pure,Result.andThen_ok,hu]
  ·cases hr
theorem ares_ok {Θ:Tab} (hT:TabOK P Θ) {w:World} {S F:Nat→Prop} {m:Pm} {t:Fr} {a:Act} {h:Heap} {fn:Func} {v:AV} (hrel:Rel w S F m h) (ht:TR w S m N t a) (hr:ares Θ fn.results t h=some v):
  ∃u,(results fn a.tmps).run P w=.ok u w∧VR w S m v u:=by
 have hf:∀r v,ares1 Θ t h r=some v→∃u,((fun| .tmp t=>pure (a.tmps.getD t undef)| .cell b t=>do loadVar t (←asAddr (a.tmps.getD b undef)):ResultVar→Sem Value) r).run P w=.ok u w∧VR w S m v u:=by
  intro r v hv
  cases r with
  |tmp x=>simp only[ares1,Option.some.injEq] at hv;subst hv;exact⟨_,rfl,ht.2 x⟩
  |cell b ty=>
   simp only[ares1] at hv;split at hv
   ·rename_i ti hti
    split at hv
    ·rename_i cs hcs
     obtain⟨b',o,vs,hx,hl,hat,hz⟩:=rdCells_ok hcs (ht.2 b) (fun b o p _ hb hm=>hrel.content b o p hb hm);obtain⟨v',hr,hr'⟩:=loadVar_ok (hT _ _ hti) hl hat hz hv;refine⟨v', ?_,hr'⟩;simp only[Sem.run_bind,hx,asAddr,Sem.run_pure,Result.andThen_ok,hr]
    ·cases hv
   ·cases hv
 unfold ares at hr;unfold results;rw[Array.mapM_eq_mapM_toList];split at hr
 ·rename_i v' h1
  simp only[Option.some.injEq] at hr;subst hr;obtain⟨us,hu,hL⟩:=ares_list (P:=P) hf _ _ h1
  obtain⟨x,rfl⟩:∃x,us=[x]:=by
   have:=hL.1
   match us,this with
   |[x],_=>exact⟨x,rfl⟩
  refine⟨x, ?_,hL.2 0 v' x rfl rfl⟩;simp only[map_eq_pure_bind,Sem.run_bind,Sem.run_pure];refine(congrArg (fun r=>(Result.andThen r _).andThen _) hu).trans ?_;rfl
 ·rename_i vs hne h1
  simp only[Option.some.injEq] at hr;subst hr;obtain⟨us,hu,hL⟩:=ares_list (P:=P) hf _ _ h1;refine⟨.tuple us.toArray, ?_,.tup _ _ hL.1 hL.2⟩;simp only[map_eq_pure_bind,Sem.run_bind,Sem.run_pure];refine(congrArg (fun r=>(Result.andThen r _).andThen _) hu).trans ?_
  have:¬us.toArray.size=1:=by
   intro h;have:vs.length=1:=by rw[←hL.1];simpa using h
   match vs,this with
   |[x],_=>exact hne x rfl
  simp only[Result.andThen_ok,this,dif_neg,not_false_eq_true]
 ·cases hr
theorem snd_fn {Θ:Tab} (hT0:TabOK P Θ) {f:FuncId} {fn:Func} {c:Code} {args:List AV} {t':Fr} {h h':Heap} {n n':Nat} {e:AEx} {res:AV} (hf:P.funcs[f]?=some fn) (hb:fn.body=some c) (hN:args.length≤fn.ntmps) (hn:fn.name≠ "runtime.NumGoroutine")
  (ha:CodeS P fn.ntmps c (fr0 args) h n e t' h' n') (he:e=.normal∨e=.ret) (hr:ares Θ fn.results t' h'=some res):FnS P f args h n res h' n':=by
 refine⟨ha.1,⟨fn,hf,by simp[hb],hn⟩,fun w S F m vs hx hrel hL hfr=>?_⟩;refine calls_of_wp hf hb ?_
 have hT:TR w S m fn.ntmps (fr0 args) { tmps:=vs.toArray++Array.replicate (fn.ntmps - vs.toArray.size) undef,defers:=[] }:=by
  refine⟨by simp[hL.1];omega,fun x=>?_⟩;unfold fr0;by_cases hx:x<args.length
  ·have e1:args.getD x .any=args[x]:=by simp[hx]
   have hx':x<vs.length:=by rw[hL.1];exact hx
   have e2:(vs.toArray++Array.replicate (fn.ntmps - vs.toArray.size) undef).getD x undef=vs[x]:=by
    rw[Array.getD_eq_getD_getElem?,Array.getElem?_append_left (by simpa using hx')];simp[hx']
   rw[e1,e2];exact hL.2 x _ _ (by simp[hx]) (by simp[hx'])
  ·have e1:args.getD x .any=.any:=by simp[Nat.le_of_not_lt hx]
   rw[e1];exact .any _
 refine wp_mono (wpIn_wide.1 (ha.2.1 w S F m _ ⟨hx,hrel,hT,hfr⟩ none)) fun ex a' w' hq=>?_
 obtain⟨hx,S',m',k1,k2,k3,k4⟩:=hq;obtain⟨u,hu,hv⟩:=ares_ok (P:=P) hT0 k3 k2 hr;rcases he with rfl|rfl
 ·rw[ExR.normal hx];exact⟨k4,u,hu,u,S',m',rfl,k1,hv,k3⟩
 ·cases ex<;>simp[ExR] at hx
  exact⟨k4,u,hu,u,S',m',rfl,k1,hv,k3⟩
theorem sound (hT:TabOK P Θ) (hm:P.follows .mixedOrders=true) {j:Job} (h:Big P Θ j):Snd P j:=by
 induction h with
 |skip ho hg hd=>exact op_skip ho hg hd
 |plain ho hg hd hop=>exact op_plain hT ho hg hd hop
 |callH ho hg hd hop hc hf ha hb ih=>exact op_callH ho hg hd hop hc hf ha ih
 |callP live ho hg hd hop hc hf ha hr hb hr' ih=>exact op_callP live ho hg hd hop hc hf ha hr ih hr'
 |callT live ho hg hd hop hc hf ha hr hb hh hl hr' ih=>exact op_callT live ho hg hd hop hc hf ha hr ih hh hl hr'
 |semO h=>exact h
 |semC h=>exact h
 |semF h=>exact h
 |nil=>exact rfl
 |cons h1 h2 ih1 ih2=>exact⟨_,ih1,ih2⟩
 |cskip=>exact⟨AbsS.refl _ _,fun w S F m a hp ro=>wpIn_skip ⟨trivial,S,m,St.rfl hp.2.2.2,hp.2.2.1,hp.2.1,rfl⟩,fun body hc=>by cases hc⟩
 |label=>exact⟨AbsS.refl _ _,fun w S F m a hp ro=>wpIn_label ⟨trivial,S,m,St.rfl hp.2.2.2,hp.2.2.1,hp.2.1,rfl⟩,fun body hc=>by cases hc⟩
 |exit=>exact⟨AbsS.refl _ _,fun w S F m a hp ro=>wpIn_exit ⟨rfl,S,m,St.rfl hp.2.2.2,hp.2.2.1,hp.2.1,rfl⟩,fun body hc=>by cases hc⟩
 |goto=>exact⟨AbsS.refl _ _,fun w S F m a hp ro=>wpIn_goto ⟨rfl,S,m,St.rfl hp.2.2.2,hp.2.2.1,hp.2.1,rfl⟩,fun body hc=>by cases hc⟩
 |ret=>exact⟨AbsS.refl _ _,fun w S F m a hp ro=>wpIn_ret ⟨trivial,S,m,St.rfl hp.2.2.2,hp.2.2.1,hp.2.1,rfl⟩,fun body hc=>by cases hc⟩
 | @region N id ops draw t h n cs t' h' n' hb hd ih=>
   refine⟨region_abs ih,fun w S F m a hp ro=>?_,fun body hc=>by cases hc⟩
   cases draw with
   |false=>exact region_seq ih hp ro
   |true=>exact region_draw hm ih (hd rfl) hp ro
 |seq ha hb iha ihb=>exact snd_seq iha ihb
 |seqx he ha ih=>exact snd_seqx he ih
 |condT hc ha ih=>exact⟨ih.1,fun w S F m a hp ro=>wpIn_cond_true (ev_bool hp.2.1.glob hp.2.2.1 hc) (ih.2.1 w S F m a hp ro),fun body hc=>by cases hc⟩
 |condF hc ha ih=>exact⟨ih.1,fun w S F m a hp ro=>wpIn_cond_false (ev_bool hp.2.1.glob hp.2.2.1 hc) (ih.2.1 w S F m a hp ro),fun body hc=>by cases hc⟩
 |block hc ih=>exact snd_block (.inl ⟨rfl,rfl⟩) ih
 |blockX hc ih=>exact snd_block (.inr (.inl ⟨rfl,rfl⟩)) ih
 |blockE he he' hc ih=>exact snd_block (.inr (.inr ⟨he',rfl⟩)) ih
 |loop hc hl ih1 ih2=>exact snd_loop ih1 ih2
 |loopE he hc ih=>exact snd_loopE he ih
 |scope hc ih=>exact snd_scope ih
 |scpD he hc ih=>exact snd_scpD he ih
 |scpG hc hf hr ih1 ih2=>exact snd_scpG ih1 hf ih2
 |forget ht hh hc ih=>exact snd_forget ht hh ih
 |fn hf hb hN hn hc he hr ih=>exact snd_fn hT hf hb hN hn ih he hr
end
end Go.Av
namespace Go.Av
def ekOf:Option TypeDesc→Option EK
 |some .bool=>some .bool
 |some (.int k)=>some (.int k)
 |some .string=>some .str
 |_=>none
def rowEq (P:Program) (t:TypeId):Option (Nat×EK):=
 match P.underlying t with
 |some (.array n e)=>match ekOf (P.underlying e),P.info? e,P.info? t with
  |some k,some _,some i=>if P.cellsOf e=1∧i.size=n∧0<n then some (n,k) else none
  |_,_,_=>none
 |_=>none
def wideEq (P:Program):Nat→List Field→Option (List EK)
 |_,[]=>some []
 |j,f::fs=>if f.name≠ "_" ∧f.offset=j then match ekOf (P.underlying f.type) with
   |some k=>match wideEq P (j+1) fs with
    |some ks=>some (k::ks)
    |none=>none
   |none=>match rowEq P f.type with
    |some (n,k)=>match wideEq P (j+n) fs with
     |some ks=>some (List.replicate n k++ks)
     |none=>none
    |none=>none
  else none
def mkEqW (P:Program) (t:TypeId):Option (List EK):=
 match P.underlying t with
 |some (.struct fs)=>if P.eqGuardType P.depth t=false∧P.stoodInHeld t=false then wideEq P 0 fs.toList else none
 |_=>none
def deepFs (f:TypeId→Option (List EK)) (P:Program):Nat→List Field→Option (List EK)
 |_,[]=>some []
 |j,fl::fs=>if fl.name≠ "_" ∧fl.offset=j then match f fl.type,P.info? fl.type with
   |some ks,some i=>if i.size=ks.length∧1≤ks.length then match deepFs f P (j+ks.length) fs with
     |some l=>some (ks++l)
     |none=>none
    else none
   |_,_=>none
  else none
def repE (ks:List EK):Nat→List EK
 |0=>[]
 |n+1=>ks++repE ks n
def deepEq (P:Program):Nat→TypeId→Option (List EK)
 |0,_=>none
 |d+1,t=>match P.underlying t with
  |some .bool=>some [.bool]
  |some (.int k)=>some [.int k]
  |some .string=>some [.str]
  |some (.struct fs)=>if P.stoodInHeld t=false then deepFs (deepEq P d) P 0 fs.toList else none
  |some (.array n e)=>match deepEq P d e,P.info? e with
   |some ks,some i=>if i.size=ks.length then some (repE ks n) else none
   |_,_=>none
  |_=>none
def mkField (P:Program) (f:Field):Option (Nat×Nat×Bool):=
 match P.info? f.type,P.underlying f.type with
 |some i,some d=>some (f.offset,i.size,d.isRow)
 |_,_=>none
def mkKind (P:Program):TypeDesc→TK
 | .bool=> .bool
 | .int k=> .int k
 | .string=> .str
 | .struct fs=>match fs.toList.mapM (mkField P) with
   |some l=> .struct l
   |none=> .plain
 | .array n e=>match P.info? e,P.underlying e with
   |some i,some d=> .array n i.size d.isRow
   |_,_=> .plain
 | .slice e=>match P.info? e with
   |some i=>match i.zero with
    |some z=>match cvs z.cells.toList with
     |some zs=> .slice i.size i.bytes zs
     |none=> .plain
    |none=> .plain
   |none=> .plain
 | .map k e=>match P.info? e,deepEq P 8 k,P.underlying k with
   |some i,some ks,some dk=>match i.zero with
    |some z=>match cv z with
     |some vz=>if dk.isRow=decide (2≤ks.length)∧1≤ks.length then .map ks vz else .plain
     |none=> .plain
    |none=> .plain
   |_,_,_=> .plain
 | .pointer e=>match P.info? e with
   |some i=> .ptr i.size e (liesAt P P.depth e (i.size / P.cellsOf e) 0 e 1)
   |none=> .plain
 | .interface _=> .iface
 | .unsafePointer=> .upr
 |_=> .plain
def mkTI (P:Program) (t:TypeId):Option TI:=
 match P.info? t,P.underlying t with
 |some i,some d=>match i.zero with
  |some z=>match cvs z.cells.toList with
   |some zs=>some ⟨i.size,d.isRow,mkKind P d,zs,mkEqW P t,match d with| .slice e=>some e|_=>none,cv z⟩
   |none=>none
  |none=>none
 |_,_=>none
section
variable {P:Program}
theorem mapM_back {α β:Type} {f:α→Option β}:∀{l:List α} {r:List β},l.mapM f=some r→r.length=l.length∧∀(j:Nat) (b:β),r[j]?=some b→∃a,l[j]?=some a∧f a=some b
 |[],r,h=>by simp at h;subst h;simp
 |a::l,r,h=>by
  rw[List.mapM_cons] at h;simp only[bind,Option.bind_eq_some_iff,pure,Option.some.injEq] at h;obtain⟨b,hb,bs,hbs,rfl⟩:=h;obtain⟨h1,h2⟩:=mapM_back hbs;refine⟨by simp[h1],fun j c hj=>?_⟩
  cases j with
  |zero=>simp at hj;subst hj;exact⟨a,by simp,hb⟩
  |succ j=>simp at hj;simpa using h2 j c hj
theorem equal_cell {w:World} {S:Nat→Prop} {m:Pm} {e:TypeId} {k:EK} (he:ekOf (P.underlying e)=some k) {a b:AV} {x y:Value} {r:Bool} (d:Nat) (ha:VR w S m a x) (hb:VR w S m b y) (h:eq1 k a b=some r):
  (Op.equalIn (d+1) e x y).run P w=.ok r w:=by
 unfold ekOf at he;unfold eq1 at h;split at he<;>simp only[Option.some.injEq,reduceCtorEq] at he<;>subst he
 ·rename_i hu
  split at h<;>simp only[Option.some.injEq,reduceCtorEq] at* <;>try contradiction
  cases ha;cases hb;subst h;exact run_equalIn_bool' w d e _ _ hu
 ·rename_i k hu
  split at h<;>simp only[EK.int.injEq,reduceCtorEq] at* <;>try contradiction
  split at h
  ·rename_i hk
   cases ha;cases hb;cases h;obtain⟨rfl,rfl⟩:=hk
   rename_i e1;subst e1
   exact run_equalIn_int w d e _ _ _ _ hu
  ·cases h
 ·rename_i hu
  split at h<;>simp only[Option.some.injEq,reduceCtorEq] at* <;>try contradiction
  cases ha;cases hb;subst h;rw[run_equalIn_string w d e _ _ hu,beq_toListBytes]
theorem plain_of {e:TypeId} {k:EK} (he:ekOf (P.underlying e)=some k):P.plainKey e=true:=by
 unfold ekOf at he;unfold Program.plainKey;split at he<;>simp_all
theorem eqs_len:∀{ks:List EK} {xs ys:List AV} {r:Bool},eqs ks xs ys=some r→xs.length=ks.length∧ys.length=ks.length
 |[],[],[],r,h=>⟨rfl,rfl⟩
 |[],[],_::_,r,h=>by simp[eqs] at h
 |[],_::_,_,r,h=>by simp[eqs] at h
 |_::_,[],_,r,h=>by simp[eqs] at h
 |_::_,_::_,[],r,h=>by simp[eqs] at h
 |k::ks,x::xs,y::ys,r,h=>by
  simp only[eqs] at h;split at h
  ·rename_i a b ha hb
   obtain⟨h1,h2⟩:=eqs_len hb;exact⟨by simp[h1],by simp[h2]⟩
  ·cases h
theorem eqs_app:∀{ks ls:List EK} {xs ys:List AV} {r:Bool},eqs (ks++ls) xs ys=some r→∃a b,eqs ks (xs.take ks.length) (ys.take ks.length)=some a∧eqs ls (xs.drop ks.length) (ys.drop ks.length)=some b∧r=(a && b)
 |[],ls,xs,ys,r,h=>⟨true,r,by simp[eqs],by simpa using h,by simp⟩
 |k::ks,ls,xs,ys,r,h=>by
  rw[List.cons_append] at h
  cases xs with
  |nil=>simp[eqs] at h
  |cons x xs=>
   cases ys with
   |nil=>simp[eqs] at h
   |cons y ys=>
    simp only[eqs] at h;split at h
    ·rename_i a b ha hb
     simp only[Option.some.injEq] at h;subst h;obtain⟨a',b',h1,h2,rfl⟩:=eqs_app hb;exact⟨a && a',b',by simp[eqs,ha,h1],by simpa using h2,by simp[Bool.and_assoc]⟩
    ·cases h
theorem check_cell {e:TypeId} {k:EK} (he:ekOf (P.underlying e)=some k) (em:Bool) (d:Nat) (x:Value) (w:World):(Instr.checkKey em (d+1) e x).run P w=.ok () w:=by
 unfold ekOf at he;split at he<;>simp only[Option.some.injEq,reduceCtorEq] at he<;>subst he
 all_goals (rename_i hu;unfold Instr.checkKey;simp only[Sem.run_bind,run_underlying hu,Result.andThen_ok];cases x<;>simp)
theorem eqs_rep {ks:List EK}:∀(n:Nat) {xs ys:List AV} {r:Bool},eqs (repE ks n) xs ys=some r→xs.length=n*ks.length
 |0,xs,ys,r,h=>by simpa[repE] using(eqs_len h).1
 |n+1,xs,ys,r,h=>by
  have:=(eqs_len h).1
  have hl:∀m,(repE ks m).length=m*ks.length:=fun m=>by
   induction m with
   |zero=>simp[repE]
   |succ m ih=>simp[repE,ih,Nat.add_mul];omega
  rw[this,hl]
theorem repE_length (ks:List EK):∀m,(repE ks m).length=m*ks.length
 |0=>by simp[repE]
 |m+1=>by simp[repE,repE_length ks m,Nat.add_mul];omega
def valOf (row:Bool) (us:List Value):Value:=if row then .agg ⟨us⟩ else us.headD undef
theorem part_val {w:World} {S:Nat→Prop} {m:Pm} {t:TypeId} {i:TypeInfo} {d:TypeDesc} (hi:P.info? t=some i) (hu:P.underlying t=some d) (h1:d.isRow=false→i.size=1) {xs:List AV} {us:List Value} (hl:LR w S m xs us)
  {o:Nat} (hle:o+i.size≤xs.length):∃us',(part t ⟨us⟩ o).run P w=.ok (valOf d.isRow us') w∧LR w S m ((xs.drop o).take i.size) us':=by
 cases hr:d.isRow with
 |true=>
  obtain⟨u,p1,hu1⟩:=part_ok (P:=P) hi hu hr hl hle (v:=.agg ((xs.drop o).take i.size)) rfl
  cases hu1 with
  |agg _ us' q1 q2=>exact⟨us',by rw[p1];rfl,q1,q2⟩
 |false=>
  have hs:=h1 hr;have hlt:o<xs.length:=by omega
  have e1:(xs.drop o).take i.size=[xs[o]]:=by
   rw[hs,List.drop_eq_getElem_cons hlt,List.take_succ_cons,List.take_zero]
  obtain⟨u,p1,hu1⟩:=part_ok (P:=P) hi hu hr hl hle (v:=xs[o]) (by rw[e1];rfl);exact⟨[u],by rw[p1];rfl,by rw[e1];exact LR.cons hu1 LR.nil⟩
theorem deep_one {d:Nat} {t:TypeId} {dt:TypeDesc} {ks:List EK} (h:deepEq P d t=some ks) (hu:P.underlying t=some dt) (hr:dt.isRow=false):ks.length=1:=by
 cases d with
 |zero=>cases h
 |succ d=>
  simp only[deepEq,hu] at h;split at h
  ·cases h;rfl
  ·cases h;rfl
  ·cases h;rfl
  ·rename_i e;simp only[Option.some.injEq] at e;subst e;cases hr
  ·rename_i e;simp only[Option.some.injEq] at e;subst e;cases hr
  ·cases h
theorem deep_und {d:Nat} {t:TypeId} {ks:List EK} (h:deepEq P d t=some ks):∃dt,P.underlying t=some dt:=by
 cases d with
 |zero=>cases h
 |succ d=>
  cases hu:P.underlying t with
  |none=>simp[deepEq,hu] at h
  |some dt=>exact⟨dt,rfl⟩
theorem deep_eq:∀(d:Nat) (t:TypeId) (ks:List EK) (dt:TypeDesc),deepEq P d t=some ks→P.underlying t=some dt→∀(D:Nat) (w:World) (S:Nat→Prop) (m:Pm) (xs ys:List AV) (us vs:List Value) (r:Bool),LR w S m xs us→LR w S m ys vs→
  eqs ks xs ys=some r→(Op.equalIn (D+d) t (valOf dt.isRow us) (valOf dt.isRow vs)).run P w=.ok r w
 |0,_,_,_,h,_,_,_,_,_,_,_,_,_,_,_,_,_=>by cases h
 |d+1,t,ks,dt,h,hu,D,w,S,m,xs,ys,us,vs,r,hx,hy,hr=>by
  have cell:∀(k:EK),ks=[k]→dt.isRow=false→ekOf (P.underlying t)=some k→(Op.equalIn (D+(d+1)) t (valOf dt.isRow us) (valOf dt.isRow vs)).run P w=.ok r w:=by
   intro k hk hrow he;subst hk;obtain⟨l1,l2⟩:=eqs_len hr
   match xs,ys,us,vs,hx,hy,l1,l2,hr with
   |[x],[y],[u],[v],hx,hy,_,_,hr=>
    simp only[eqs] at hr;split at hr
    ·rename_i a b ha hb
     simp only[Option.some.injEq] at hr hb;subst hr;rw[hrow];have:=equal_cell he (D+d) (hx.2 0 x u rfl rfl) (hy.2 0 y v rfl rfl) ha;rw[←hb,Bool.and_true];exact this
    ·cases hr
   |[x],[y],[],_,hx,_,_,_,_=>exact absurd hx.1 (by simp)
   |[x],[y],_::_::_,_,hx,_,_,_,_=>exact absurd hx.1 (by simp)
   |[x],[y],[u],[],_,hy,_,_,_=>exact absurd hy.1 (by simp)
   |[x],[y],[u],_::_::_,_,hy,_,_,_=>exact absurd hy.1 (by simp)
  simp only[deepEq,hu] at h;split at h
  ·rename_i e;simp only[Option.some.injEq] at e h;subst e;exact cell _ h.symm rfl (by rw[hu];rfl)
  ·rename_i e;simp only[Option.some.injEq] at e h;subst e;exact cell _ h.symm rfl (by rw[hu];rfl)
  ·rename_i e;simp only[Option.some.injEq] at e h;subst e;exact cell _ h.symm rfl (by rw[hu];rfl)
  ·rename_i fs e
   simp only[Option.some.injEq] at e;subst e;split at h
   ·rename_i hg
    have hfs:P.fieldsOf t=fs:=by simp[Program.fieldsOf,hu]
    have h1:=run_equalIn_struct w (D+d) t ⟨us⟩ ⟨vs⟩ (by rw[hfs];exact hu) hg;rw[hfs] at h1
    have key:∀(l:List Field) (j:Nat) (ks:List EK) (r:Bool),deepFs (deepEq P d) P j l=some ks→eqs ks (xs.drop j) (ys.drop j)=some r→(Op.eqFields (D+d) ⟨us⟩ ⟨vs⟩ l).run P w=.ok r w:=by
     intro l
     induction l with
     |nil=>
      intro j ks r hk hr;simp only[deepFs,Option.some.injEq] at hk;subst hk;unfold eqs at hr;split at hr<;>simp_all [Op.eqFields]
     |cons fl l ih=>
      intro j ks r hk hr;unfold deepFs at hk;split at hk
      ·rename_i hn
       split at hk
       ·rename_i kf i hkf hi
        split at hk
        ·rename_i hsz0
         have hsz:=hsz0.1;split at hk
         ·rename_i kl hkl
          simp only[Option.some.injEq] at hk;subst hk;obtain⟨a,b,q1,q2,rfl⟩:=eqs_app hr;obtain⟨dt',hu'⟩:=deep_und hkf;obtain⟨l1,l2⟩:=eqs_len q1;simp only[List.length_take,List.length_drop] at l1 l2;have hone:dt'.isRow=false→i.size=1:=fun hr=>by rw[hsz];exact deep_one hkf hu' hr
          have hk1:=hsz0.2;have hpos:fl.offset+i.size≤xs.length∧fl.offset+i.size≤ys.length:=by rw[hn.2,hsz];omega
          obtain⟨us',p1,hu1⟩:=part_val (P:=P) hi hu' hone hx hpos.1;obtain⟨vs',p2,hv1⟩:=part_val (P:=P) hi hu' hone hy hpos.2;have p3:=deep_eq d fl.type kf dt' hkf hu' D w S m _ _ us' vs' a hu1 hv1 (by rw[hn.2,hsz];exact q1);have p4:=ih (j+kf.length) kl b hkl (by rw[←List.drop_drop,←List.drop_drop];exact q2);simp only[Op.eqFields,hn.1,ne_eq,not_false_eq_true,if_true,Sem.run_bind,p1,p2,p3,Result.andThen_ok];cases a
          ·simp
          ·simpa using p4
         ·cases hk
        ·cases hk
       ·cases hk
      ·cases hk
    exact h1.trans (key fs.toList 0 ks r h (by simpa using hr))
   ·cases h
  ·rename_i n e e0
   simp only[Option.some.injEq] at e0;subst e0;split at h
   ·rename_i ke i hke hi
    split at h
    ·rename_i hsz
     simp only[Option.some.injEq] at h;subst h;obtain⟨dt',hu'⟩:=deep_und hke;have hone:dt'.isRow=false→i.size=1:=fun hr=>by rw[hsz];exact deep_one hke hu' hr
     have hc:P.cellsOf e=ke.length:=by simp[Program.cellsOf,hi,hsz]
     have h1:=run_equalIn_array w (D+d) ⟨us⟩ ⟨vs⟩ hu hi;rw[List.range_eq_range'] at h1;have hlx:=eqs_rep n hr;have hly:ys.length=n*ke.length:=by rw[(eqs_len hr).2,repE_length]
     have key:∀(q k:Nat) (r:Bool),k+q=n→eqs (repE ke q) (xs.drop (k*ke.length)) (ys.drop (k*ke.length))=some r→(Op.eqItems (D+d) e (P.cellsOf e) ⟨us⟩ ⟨vs⟩ (List.range' k q)).run P w=.ok r w:=by
      intro q
      induction q with
      |zero=>
       intro k r hkq hr;unfold repE eqs at hr;split at hr<;>simp_all [Op.eqItems]
      |succ q ih=>
       intro k r hkq hr;obtain⟨a,b,q1,q2,rfl⟩:=eqs_app hr
       have hle:k*ke.length+ke.length≤n*ke.length:=by
        have:(k+1)*ke.length≤n*ke.length:=Nat.mul_le_mul_right _ (by omega);rw[Nat.add_mul,Nat.one_mul] at this;exact this
       obtain⟨us',p1,hu1⟩:=part_val (P:=P) hi hu' hone hx (o:=k*P.cellsOf e) (by rw[hc,hsz,hlx];exact hle);obtain⟨vs',p2,hv1⟩:=part_val (P:=P) hi hu' hone hy (o:=k*P.cellsOf e) (by rw[hc,hsz,hly];exact hle);have p3:=deep_eq d e ke dt' hke hu' D w S m _ _ us' vs' a hu1 hv1 (by rw[hc,hsz];exact q1);have p4:=ih (k+1) b (by omega) (by rw[Nat.add_mul,Nat.one_mul,←List.drop_drop,←List.drop_drop];exact q2);simp only[List.range'_succ,Op.eqItems,Sem.run_bind,p1,p2,p3,Result.andThen_ok];cases a
       ·simp
       ·simpa using p4
     exact h1.trans (key n 0 r (by omega) (by simpa using hr))
    ·cases h
   ·cases h
  ·cases h
theorem deep_check:∀(d:Nat) (t:TypeId) (ks:List EK) (dt:TypeDesc),deepEq P d t=some ks→P.underlying t=some dt→∀(D:Nat) (em:Bool) (w:World) (S:Nat→Prop) (m:Pm) (xs:List AV) (us:List Value),LR w S m xs us→
  xs.length=ks.length→(Instr.checkKey em (D+d) t (valOf dt.isRow us)).run P w=.ok () w
 |0,_,_,_,h,_,_,_,_,_,_,_,_,_,_=>by cases h
 |d+1,t,ks,dt,h,hu,D,em,w,S,m,xs,us,hx,hl=>by
  have cell:∀k,ekOf (P.underlying t)=some k→∀x,(Instr.checkKey em (D+(d+1)) t x).run P w=.ok () w:=fun k he x=>check_cell he em (D+d) x w
  simp only[deepEq,hu] at h;split at h
  ·rename_i e;simp only[Option.some.injEq] at e;subst e;exact cell .bool (by rw[hu];rfl) _
  ·rename_i k e;simp only[Option.some.injEq] at e;subst e;exact cell (.int k) (by rw[hu];rfl) _
  ·rename_i e;simp only[Option.some.injEq] at e;subst e;exact cell .str (by rw[hu];rfl) _
  ·rename_i fs e
   simp only[Option.some.injEq] at e;subst e;split at h
   ·have key:∀(l:List Field) (j:Nat) (ks:List EK),deepFs (deepEq P d) P j l=some ks→ks.length+j=xs.length→
      (forIn (m:=Sem) l PUnit.unit fun f _=>do
        if f.name≠ "_" then Instr.checkKey em (D+d) f.type (←part f.type ⟨us⟩ f.offset)
        pure (ForInStep.yield PUnit.unit)).run P w=.ok PUnit.unit w:=by
     intro l
     induction l with
     |nil=>intro j ks hk hl;simp
     |cons fl l ih=>
      intro j ks hk hl;unfold deepFs at hk;split at hk
      ·rename_i hn
       split at hk
       ·rename_i kf i hkf hi
        split at hk
        ·rename_i hsz0
         have hsz:=hsz0.1;split at hk
         ·rename_i kl hkl
          simp only[Option.some.injEq] at hk;subst hk;rw[List.length_append] at hl;obtain⟨dt',hu'⟩:=deep_und hkf;have hone:dt'.isRow=false→i.size=1:=fun hr=>by rw[hsz];exact deep_one hkf hu' hr
          obtain⟨us',p1,hu1⟩:=part_val (P:=P) hi hu' hone hx (o:=fl.offset) (by rw[hn.2,hsz];omega);have p3:=deep_check d fl.type kf dt' hkf hu' D em w S m _ us' hu1 (by rw[List.length_take,List.length_drop,hn.2,hsz];omega);have p4:=ih (j+kf.length) kl hkl (by omega);simp only[List.forIn_cons,hn.1,ne_eq,not_false_eq_true,if_true,Sem.run_bind,p1,p3,Result.andThen_ok,Sem.run_pure];exact p4
         ·cases hk
        ·cases hk
       ·cases hk
      ·cases hk
    have:=key fs.toList 0 ks h (by omega);unfold Instr.checkKey;simp only[Sem.run_bind,run_underlying hu,Result.andThen_ok]
    show Sem.run P ((forIn (m:=Sem) fs PUnit.unit fun f _=>do
       if f.name≠ "_" then Instr.checkKey em (D+d) f.type (←part f.type ⟨us⟩ f.offset)
       pure (ForInStep.yield PUnit.unit))>>=fun _=>pure ()) w=_
    rw[Sem.run_bind,←Array.forIn_toList,this];rfl
   ·cases h
  ·rename_i n e e0
   simp only[Option.some.injEq] at e0;subst e0;split at h
   ·rename_i ke i hke hi
    split at h
    ·rename_i hsz
     simp only[Option.some.injEq] at h;subst h;rw[repE_length] at hl;obtain⟨dt',hu'⟩:=deep_und hke;have hone:dt'.isRow=false→i.size=1:=fun hr=>by rw[hsz];exact deep_one hke hu' hr
     have hc:P.cellsOf e=ke.length:=by simp[Program.cellsOf,hi,hsz]
     have key:∀(q k:Nat),k+q=n→(forIn (m:=Sem) (List.range' k q) PUnit.unit fun i _=>do
       Instr.checkKey em (D+d) e (←part e ⟨us⟩ (i*(←sizeOf e)))
       pure (ForInStep.yield PUnit.unit)).run P w=.ok PUnit.unit w:=by
      intro q
      induction q with
      |zero=>intro k hkq;simp
      |succ q ih=>
       intro k hkq
       have hle:k*ke.length+ke.length≤n*ke.length:=by
        have:(k+1)*ke.length≤n*ke.length:=Nat.mul_le_mul_right _ (by omega);rw[Nat.add_mul,Nat.one_mul] at this;exact this
       obtain⟨us',p1,hu1⟩:=part_val (P:=P) hi hu' hone hx (o:=k*i.size) (by rw[hsz,hl];exact hle);have p3:=deep_check d e ke dt' hke hu' D em w S m _ us' hu1 (by rw[List.length_take,List.length_drop,hsz];omega);have p0:(sizeOf e).run P w=.ok i.size w:=by simp[sizeOf,typeInfo,hi]
       simp only[List.range'_succ,List.forIn_cons,Sem.run_bind,p0,p1,p3,Result.andThen_ok,Sem.run_pure];exact ih (k+1) (by omega)
     have:=key n 0 (by omega);unfold Instr.checkKey;simp only[Sem.run_bind,run_underlying hu,Result.andThen_ok]
     show Sem.run P ((forIn (m:=Sem) [0:n] PUnit.unit fun i _=>do
       Instr.checkKey em (D+d) e (←part e ⟨us⟩ (i*(←sizeOf e)))
       pure (ForInStep.yield PUnit.unit))>>=fun _=>pure ()) w=_
     rw[Sem.run_bind,Std.Legacy.Range.forIn_eq_forIn_range'];simp only[Std.Legacy.Range.size,Nat.sub_zero,Nat.add_one_sub_one,Nat.div_one];rw[this];rfl
    ·cases h
   ·cases h
  ·cases h
theorem cellEq_row {ks:List EK} {a b:AV} {r:Bool} (h:cellEq ks a b=some r) {w:World} {S:Nat→Prop} {m:Pm} {x y:Value} (hx:VR w S m a x) (hy:VR w S m b y):
  ∃xs us ys vs,LR w S m xs us∧LR w S m ys vs∧eqs ks xs ys=some r∧x=valOf (decide (2≤ks.length)) us∧y=valOf (decide (2≤ks.length)) vs:=by
 unfold cellEq at h;split at h
 ·split at h
  ·rename_i hle
   cases hx with
   |agg _ us k1 k2=>
    cases hy with
    |agg _ vs k3 k4=>exact⟨_,us,_,vs,⟨k1,k2⟩,⟨k3,k4⟩,h,by simp[valOf,hle],by simp[valOf,hle]⟩
  ·cases h
 ·cases h
 ·cases h
 ·split at h
  ·rename_i na nb xs ys hxs hys
   have one:∀(c:AV) (l:List AV),cellsOf c=some l→(∀l,c≠.agg l)→l=[c]:=by
    intro c l hc hn;cases c<;>simp only[cellsOf,Option.some.injEq,reduceCtorEq] at hc<;>first|exact hc.symm|exact absurd rfl (hn _)
   have e1:=one a xs hxs (fun l e=>by subst e;cases b<;>simp_all);have e2:=one b ys hys (fun l e=>by subst e;cases a<;>simp_all);subst e1 e2;have hl:ks.length=1:=by simpa using(eqs_len h).1.symm
   exact⟨[a],[x],[b],[y],LR.cons hx LR.nil,LR.cons hy LR.nil,h,by simp[valOf,hl],by simp[valOf,hl]⟩
  ·cases h
theorem kind_ok (d:TypeDesc):KindOK P d (mkKind P d):=by
 unfold mkKind;split
 ·rfl
 ·rfl
 ·rfl
 ·rename_i fs
  split
  ·rename_i l hl
   obtain⟨h1,h2⟩:=mapM_back hl;refine⟨fs,rfl,by simpa using h1,fun j o s g hj=>?_⟩;obtain⟨f,hf,he⟩:=h2 j _ hj;unfold mkField at he;split at he
   ·rename_i i d' hi hd
    simp only[Option.some.injEq,Prod.mk.injEq] at he;obtain⟨rfl,rfl,rfl⟩:=he;exact⟨f,i,d',by simpa using hf,rfl,hi,rfl,hd,rfl⟩
   ·cases he
  ·trivial
 ·rename_i n e
  split
  ·rename_i i d' hi hd
   exact⟨e,i,d',rfl,hi,rfl,hd,rfl⟩
  ·trivial
 ·rename_i e
  split
  ·rename_i i hi
   split
   ·rename_i z hz
    split
    ·rename_i zs hzs
     exact⟨e,i,z,rfl,hi,rfl,rfl,hz,fun w S m=>cvs_ok hzs⟩
    ·trivial
   ·trivial
  ·trivial
 ·rename_i k e
  split
  ·rename_i i ks dk hi hks hdk
   split
   ·rename_i z hz
    split
    ·rename_i vz hvz
     split
     ·rename_i hlen
      refine⟨k,e,i,z,rfl,hi,hz,fun w S m=>cv_ok hvz,fun x w S m a hx hk b=>?_,fun x y w S m a b r hx hy hr=>?_,dk,hdk⟩
      ·obtain⟨r,hr⟩:=Option.isSome_iff_exists.1 hk;obtain⟨xs,us,ys,vs,h1,h2,h3,h4,h5⟩:=cellEq_row hr hx hx;rw[h4,←hlen.1];exact deep_check 8 k ks dk hks hdk 9992 b w S m xs us h1 (eqs_len h3).1
      ·obtain⟨xs,us,ys,vs,h1,h2,h3,h4,h5⟩:=cellEq_row hr hx hy;rw[h4,h5,←hlen.1];exact deep_eq 8 k ks dk hks hdk 9992 w S m xs ys us vs r h1 h2 h3
     ·trivial
    ·trivial
   ·trivial
  ·trivial
 ·rename_i e
  split
  ·rename_i i hi
   exact⟨i,rfl,hi,rfl,fun h=>h⟩
  ·trivial
 ·exact⟨_,rfl⟩
 ·rfl
 ·trivial
theorem items_ok {w:World} {S:Nat→Prop} {m:Pm} (d:Nat) {e:TypeId} {k:EK} (he:ekOf (P.underlying e)=some k) (hc:P.cellsOf e=1) {xs ys:List AV} {us vs:List Value} (hx:LR w S m xs us) (hy:LR w S m ys vs):∀(n i:Nat) (r:Bool),
  eqs (List.replicate n k) ((xs.drop i).take n) ((ys.drop i).take n)=some r→(Op.eqItems (d+1) e (P.cellsOf e) ⟨us⟩ ⟨vs⟩ (List.range' i n)).run P w=.ok r w
 |0,i,r,h=>by
  simp only[List.replicate,List.take_zero,eqs,Option.some.injEq] at h;subst h;simp[Op.eqItems]
 |n+1,i,r,h=>by
  cases hxd:xs.drop i with
  |nil=>rw[hxd] at h;simp[eqs,List.replicate] at h
  |cons x xs'=>
   cases hyd:ys.drop i with
   |nil=>rw[hxd,hyd] at h;simp[eqs,List.replicate] at h
   |cons y ys'=>
    rw[hxd,hyd] at h;simp only[List.replicate,List.take_succ_cons,eqs] at h;split at h
    ·rename_i a b ha hb
     simp only[Option.some.injEq] at h;subst h
     have hxj:xs[i]?=some x:=by
      have:=congrArg (fun l=>l[0]?) hxd;simpa using this
     have hyj:ys[i]?=some y:=by
      have:=congrArg (fun l=>l[0]?) hyd;simpa using this
     have hx':xs.drop (i+1)=xs':=by rw[←List.drop_drop,hxd];rfl
     have hy':ys.drop (i+1)=ys':=by rw[←List.drop_drop,hyd];rfl
     obtain⟨u,hu,hru⟩:=hx.get hxj;obtain⟨v,hv,hrv⟩:=hy.get hyj;have ih:=items_ok d he hc hx hy n (i+1) b (by rw[hx',hy'];exact hb);have p1:=run_part_plain (P:=P) w (plain_of he) (xs:=⟨us⟩) (off:=i*P.cellsOf e) (by rw[hc,Nat.mul_one];simpa using hu);have p2:=run_part_plain (P:=P) w (plain_of he) (xs:=⟨vs⟩) (off:=i*P.cellsOf e) (by rw[hc,Nat.mul_one];simpa using hv);have p3:=equal_cell he d hru hrv ha;simp only[List.range'_succ,Op.eqItems,Sem.run_bind,p1,p2,p3,Result.andThen_ok];cases a
     ·simp
     ·simpa using ih
    ·cases h
theorem wide_ok {w:World} {S:Nat→Prop} {m:Pm} (d:Nat) {xs ys:List AV} {us vs:List Value} (hx:LR w S m xs us) (hy:LR w S m ys vs):∀(fs:List Field) (j:Nat) (ks:List EK) (r:Bool),
  wideEq P j fs=some ks→eqs ks (xs.drop j) (ys.drop j)=some r→(Op.eqFields (d+2) ⟨us⟩ ⟨vs⟩ fs).run P w=.ok r w
 |[],j,ks,r,hf,h=>by
  simp only[wideEq,Option.some.injEq] at hf;subst hf;unfold eqs at h;split at h<;>simp_all [Op.eqFields]
 |f::fs,j,ks,r,hf,h=>by
  unfold wideEq at hf;split at hf
  ·rename_i hn
   split at hf
   ·rename_i k hk
    split at hf
    ·rename_i ks' hks
     simp only[Option.some.injEq] at hf;subst hf
     cases hxd:xs.drop j with
     |nil=>rw[hxd] at h;simp[eqs] at h
     |cons x xs'=>
      cases hyd:ys.drop j with
      |nil=>rw[hxd,hyd] at h;simp[eqs] at h
      |cons y ys'=>
       rw[hxd,hyd] at h;simp only[eqs] at h;split at h
       ·rename_i a b ha hb
        simp only[Option.some.injEq] at h;subst h
        have hxj:xs[j]?=some x:=by
         have:=congrArg (fun l=>l[0]?) hxd;simpa using this
        have hyj:ys[j]?=some y:=by
         have:=congrArg (fun l=>l[0]?) hyd;simpa using this
        have hx':xs.drop (j+1)=xs':=by rw[←List.drop_drop,hxd];rfl
        have hy':ys.drop (j+1)=ys':=by rw[←List.drop_drop,hyd];rfl
        obtain⟨u,hu,hru⟩:=hx.get hxj;obtain⟨v,hv,hrv⟩:=hy.get hyj;have ih:=wide_ok d hx hy fs (j+1) ks' b hks (by rw[hx',hy'];exact hb);have p1:=run_part_plain (P:=P) w (plain_of hk) (xs:=⟨us⟩) (off:=f.offset) (by rw[hn.2];simpa using hu);have p2:=run_part_plain (P:=P) w (plain_of hk) (xs:=⟨vs⟩) (off:=f.offset) (by rw[hn.2];simpa using hv);have p3:=equal_cell hk (d+1) hru hrv ha;simp only[Op.eqFields,hn.1,ne_eq,not_false_eq_true,if_true,Sem.run_bind,p1,p2,p3,Result.andThen_ok];cases a
        ·simp
        ·simpa using ih
       ·cases h
    ·cases hf
   ·split at hf
    ·rename_i n k hrow
     split at hf
     ·rename_i ks' hks
      simp only[Option.some.injEq] at hf;subst hf;obtain⟨a,b,h1,h2,rfl⟩:=eqs_app h;rw[List.length_replicate] at h1 h2;unfold rowEq at hrow;split at hrow
      ·rename_i n' e hu
       split at hrow
       ·rename_i k' i1 i2 hk hi he
        split at hrow
        ·rename_i hcond
         simp only[Option.some.injEq,Prod.mk.injEq] at hrow;obtain⟨rfl,rfl⟩:=hrow;obtain⟨l1,l2⟩:=eqs_len h1;simp only[List.length_take,List.length_drop,List.length_replicate] at l1 l2;obtain⟨u,p1,hru⟩:=part_ok (P:=P) he hu (gg:=true) rfl hx (o:=f.offset) (by rw[hn.2,hcond.2.1];have:=hcond.2.2;omega) (v:=.agg ((xs.drop f.offset).take i2.size)) rfl;obtain⟨v,p2,hrv⟩:=part_ok (P:=P) he hu (gg:=true) rfl hy (o:=f.offset) (by rw[hn.2,hcond.2.1];have:=hcond.2.2;omega) (v:=.agg ((ys.drop f.offset).take i2.size)) rfl
         cases hru with
         |agg _ us' q1 q2=>
         cases hrv with
         |agg _ vs' q3 q4=>
         have ih:=wide_ok d hx hy fs (j+n') ks' b hks (by rw[←List.drop_drop,←List.drop_drop];exact h2)
         have p3:(Op.equalIn (d+2) f.type (.agg ⟨us'⟩) (.agg ⟨vs'⟩)).run P w=.ok a w:=by
          rw[run_equalIn_array w (d+1) ⟨us'⟩ ⟨vs'⟩ hu hi];rw[List.range_eq_range'];refine items_ok d hk hcond.1 (xs:=(xs.drop f.offset).take i2.size) (ys:=(ys.drop f.offset).take i2.size) ⟨q1,q2⟩ ⟨q3,q4⟩ n' 0 a ?_;rw[List.drop_zero,List.drop_zero,hn.2,hcond.2.1,List.take_take,List.take_take,Nat.min_self];exact h1
         simp only[Op.eqFields,hn.1,ne_eq,not_false_eq_true,if_true,Sem.run_bind,p1,p2,p3,Result.andThen_ok];cases a
         ·simp
         ·simpa using ih
        ·cases hrow
       ·cases hrow
      ·cases hrow
     ·cases hf
    ·cases hf
  ·cases hf
theorem mkTI_ok {t:TypeId} {ti:TI} (h:mkTI P t=some ti):TyOK P t ti:=by
 unfold mkTI at h;split at h
 ·rename_i i d hi hd
  split at h
  ·rename_i z hz
   split at h
   ·rename_i zs hzs
    simp only[Option.some.injEq] at h;subst h
    refine⟨⟨i,z,hi,rfl,hz,fun w S m=>cvs_ok hzs⟩,⟨d,hd,rfl,kind_ok d⟩,(fun e he=>by
     simp only at he;split at he
     ·cases he;exact hd
     ·cases he),(fun a ha=>⟨i,z,hi,hz,fun w S m=>cv_ok ha⟩),fun ks hks xs ys us vs w S m r hx hy hr=>?_⟩
    simp only[mkEqW] at hks;split at hks
    ·rename_i fs hu
     split at hks
     ·rename_i hg
      refine⟨hg.1, ?_⟩;have hfs:P.fieldsOf t=fs:=by simp[Program.fieldsOf,hu]
      have:=run_equalIn_struct w 9999 t ⟨us⟩ ⟨vs⟩ (by rw[hfs];exact hu) hg.2;rw[hfs] at this;have h2:=wide_ok 9997 hx hy fs.toList 0 ks r hks (by simpa using hr);exact this.trans h2
     ·cases hks
    ·cases hks
   ·cases h
  ·cases h
 ·cases h
theorem mk_ok:TabOK P (mkTI P):=fun _ _ h=>mkTI_ok h
end
end Go.Av
namespace Go.Av
section
variable (P:Program) (Θ:Tab)
def W (N:Nat) (c:Code) (t:Fr) (h:Heap) (n:Nat) (Q:AEx→Fr→Heap→Nat→Prop):Prop:=
 ∃e t' h' n',Big P Θ (.code N c t h n e t' h' n')∧Q e t' h' n'
def WS (N:Nat) (body c:Code) (t:Fr) (h:Heap) (n:Nat) (Q:AEx→Fr→Heap→Nat→Prop):Prop:=
 ∃e t' h' n',Big P Θ (.scp N body c t h n e t' h' n')∧Q e t' h' n'
def VCall (s:Nat) (g:FuncId) (args:List AV) (h:Heap) (x:Nat) (k:Cls→AV→Heap→Nat→Prop):Prop:=
 (∃res h' x',Big P Θ (.fn g args h x res h' x')∧k .W res h' x')∨
 (∃live d d' as' res res' h1 x1,rfs true d (if live then h else h0) args=some as'∧Big P Θ (.fn g as' h0 0 res h1 x1)∧rf (!live) d' h1 res=some res'∧k (if live then .Q else .L) res' h x)∨
 (∃live d d' as' b len sz es es' h1 x1,rfs true d (if live then h else h0) args=some as'∧Big P Θ (.fn g as' h0 0 (.sl b 0 len sz) h1 x1)∧h1 b=some (.cells es)∧len=es.length∧rfe (!live) d' (upd h1 b none) es=some es'∧
   k (if live then .Q else .L) (.sl s 0 len sz) (upd h s (some (.cells es'))) x)
def gdL (ops:List Oper) (t:Fr) (o:Oper):Option Bool:=
 match o.guard with
 |none=>some true
 |some (g,want)=>match (ops[g]?).bind (·.dst) with
  |some d=>match t d with
   | .bool b=>some (b==want)
   | .tup []=>some false
   |_=>none
  |none=>some false
def VOp (s n0:Nat) (op:Op) (t:Fr) (h:Heap) (x:Nat) (k:Cls→AV→Heap→Nat→Prop):Prop:=
 match op with
 | .call cl=>match cl.callee with
   | .value f=>match ev t f,evs t cl.args.toList with
     |some (.fn g caps),some as=>VCall P Θ s g (as++caps) h x k
     |_,_=>False
   |_=>match aop Θ (.call cl) t h n0 s with
    |some (c,v,u)=>k c v (upds h u) x
    |none=>False
 |op=>match aop Θ op t h n0 s with
  |some (c,v,u)=>k c v (upds h u) x
  |none=>False
def VL (N:Nat) (ops:List Oper) (n0:Nat):Nat→List Oper→Fr→Heap→Nat→List Cls→(List Cls→Fr→Heap→Nat→Prop)→Prop
 |_,[],t,h,x,cs,K=>K cs t h x
 |i,o::rest,t,h,x,cs,K=>inN N o.dst=true∧match gdL ops t o with
  |some true=>VOp P Θ (n0+i) n0 o.op t h x fun c v h' x'=>VL N ops n0 (i+1) rest (put t o.dst v) h' x' (c::cs) K
  |some false=>VL N ops n0 (i+1) rest (put t o.dst (.tup [])) h x (.P::cs) K
  |none=>False
def VK (N:Nat) (ops:List Oper) (n0 i:Nat) (d:Option Nat) (rest:List Oper) (t:Fr) (h:Heap) (x:Nat) (cs:List Cls) (K:List Cls→Fr→Heap→Nat→Prop) (r:Res):Prop:=
 match r with
 |some (c,v,u)=>VL P Θ N ops n0 (i+1) rest (put t d v) (upds h u) x (c::cs) K
 |none=>False
def VC (N:Nat) (ops:List Oper) (n0 i:Nat) (d:Option Nat) (rest:List Oper) (t:Fr) (h:Heap) (x:Nat) (cs:List Cls) (K:List Cls→Fr→Heap→Nat→Prop) (g:FuncId) (args:List AV):Prop:=
 VCall P Θ (n0+i) g args h x fun c v h' x'=>VL P Θ N ops n0 (i+1) rest (put t d v) h' x' (c::cs) K
def VF (N:Nat) (ops:List Oper) (n0 i:Nat) (d:Option Nat) (rest:List Oper) (t:Fr) (h:Heap) (x:Nat) (cs:List Cls) (K:List Cls→Fr→Heap→Nat→Prop) (f:Option AV) (as:Option (List AV)):Prop:=
 match f,as with
 |some (.fn g caps),some as=>VC P Θ N ops n0 i d rest t h x cs K g (as++caps)
 |_,_=>False
def VO (N:Nat) (ops:List Oper) (n0 i:Nat) (op:Op) (d:Option Nat) (rest:List Oper) (t:Fr) (h:Heap) (x:Nat) (cs:List Cls) (K:List Cls→Fr→Heap→Nat→Prop):Prop:=
 match op with
 | .call cl=>match cl.callee with
   | .value f=>VF P Θ N ops n0 i d rest t h x cs K (ev t f) (evs t cl.args.toList)
   |_=>VK P Θ N ops n0 i d rest t h x cs K (aop Θ (.call cl) t h n0 (n0+i))
 |op=>VK P Θ N ops n0 i d rest t h x cs K (aop Θ op t h n0 (n0+i))
def VG (N:Nat) (ops:List Oper) (n0 i:Nat) (o:Oper) (rest:List Oper) (t:Fr) (h:Heap) (x:Nat) (cs:List Cls) (K:List Cls→Fr→Heap→Nat→Prop) (b:Option Bool):Prop:=
 match b with
 |some true=>VO P Θ N ops n0 i o.op o.dst rest t h x cs K
 |some false=>VL P Θ N ops n0 (i+1) rest (put t o.dst (.tup [])) h x (.P::cs) K
 |none=>False
end
section
variable {P:Program} {Θ:Tab} {N:Nat} {ops:List Oper} {n0 i:Nat} {o:Oper} {d:Option Nat} {rest:List Oper} {t:Fr} {h:Heap} {x:Nat} {cs:List Cls} {K:List Cls→Fr→Heap→Nat→Prop} {op:Op}
theorem VL_nil:VL P Θ N ops n0 i [] t h x cs K=K cs t h x:=rfl
theorem VL_cons:VL P Θ N ops n0 i (o::rest) t h x cs K=(inN N o.dst=true∧VG P Θ N ops n0 i o rest t h x cs K (gdL ops t o)):=by
 rw[VL]
 congr 1
theorem VG_true:VG P Θ N ops n0 i o rest t h x cs K (some true)=VO P Θ N ops n0 i o.op o.dst rest t h x cs K:=rfl
theorem VG_false:VG P Θ N ops n0 i o rest t h x cs K (some false)=VL P Θ N ops n0 (i+1) rest (put t o.dst (.tup [])) h x (.P::cs) K:=rfl
theorem VK_some {c:Cls} {v:AV} {u:Upd}:VK P Θ N ops n0 i d rest t h x cs K (some (c,v,u))=VL P Θ N ops n0 (i+1) rest (put t d v) (upds h u) x (c::cs) K:=rfl
theorem VF_some {g:FuncId} {caps as:List AV}:VF P Θ N ops n0 i d rest t h x cs K (some (.fn g caps)) (some as)=VC P Θ N ops n0 i d rest t h x cs K g (as++caps):=rfl
end
section
variable {P:Program} {Θ:Tab} {N:Nat} {t:Fr} {h:Heap} {n:Nat} {Q:AEx→Fr→Heap→Nat→Prop}
theorem VL_sound {ops:List Oper} {n0:Nat}:∀(rest:List Oper) (i:Nat) (t:Fr) (h:Heap) (x:Nat) (cs:List Cls) (K:List Cls→Fr→Heap→Nat→Prop),ops.drop i=rest→
  VL P Θ N ops n0 i rest t h x cs K→∃cs' t' h' x',Big P Θ (.ops N ⟨ops⟩ n0 (List.range' i rest.length) ⟨t,h,x⟩ cs' ⟨t',h',x'⟩)∧K (cs'.reverse++cs) t' h' x'
 |[],i,t,h,x,cs,K,_,hv=>⟨[],t,h,x,.nil,hv⟩
 |o::rest,i,t,h,x,cs,K,hd,hv=>by
  have ho:ops[i]?=some o:=by
   have:=congrArg (fun l=>l[0]?) hd;simpa using this
  have ho':(⟨ops⟩:Array Oper)[i]?=some o:=by simpa using ho
  have hd':ops.drop (i+1)=rest:=by rw[←List.drop_drop,hd];rfl
  have hgd:gd ⟨ops⟩ t o=gdL ops t o:=by
   unfold gd gdL
   cases o.guard with
   |none=>rfl
   |some gw=>obtain⟨g,w⟩:=gw;simp;rfl
  unfold VL at hv;obtain⟨hn,hv⟩:=hv
  have go:∀(c:Cls) (v:AV) (h':Heap) (x':Nat),Big P Θ (.op N ⟨ops⟩ n0 i ⟨t,h,x⟩ c ⟨put t o.dst v,h',x'⟩)→VL P Θ N ops n0 (i+1) rest (put t o.dst v) h' x' (c::cs) K→
    ∃cs' t' h' x',Big P Θ (.ops N ⟨ops⟩ n0 (List.range' i (o::rest).length) ⟨t,h,x⟩ cs' ⟨t',h',x'⟩)∧K (cs'.reverse++cs) t' h' x':=by
   intro c v h' x' hb hv;obtain⟨cs',t2,h2,x2,b2,k2⟩:=VL_sound rest (i+1) _ h' x' _ K hd' hv;refine⟨c::cs',t2,h2,x2, ?_,by simpa using k2⟩;rw[List.length_cons,List.range'_succ];exact .cons hb b2
  split at hv
  ·rename_i hg
   rw[←hgd] at hg
   have plain:(match aop Θ o.op t h n0 (n0+i) with
     |some (c,v,u)=>VL P Θ N ops n0 (i+1) rest (put t o.dst v) (upds h u) x (c::cs) K
     |none=>False)→∃cs' t' h' x',Big P Θ (.ops N ⟨ops⟩ n0 (List.range' i (o::rest).length) ⟨t,h,x⟩ cs' ⟨t',h',x'⟩)∧K (cs'.reverse++cs) t' h' x':=by
    intro hp;split at hp
    ·rename_i c v u ha
     exact go c v _ x (.plain ho' hg hn ha) hp
    ·exact hp.elim
   unfold VOp at hv;split at hv
   ·rename_i cl hop
    split at hv
    ·rename_i f hc
     split at hv
     ·rename_i g caps as hf ha
      rcases hv with ⟨res,h',x',hb,hk⟩|⟨live,d,d',as',res,res',h1,x1,hr,hb,hr',hk⟩|⟨live,d,d',as',b,len,sz,es,es',h1,x1,hr,hb,hh,hl,hr',hk⟩
      ·exact go _ _ _ _ (.callH ho' hg hn hop hc hf ha hb) hk
      ·exact go _ _ _ _ (.callP live ho' hg hn hop hc hf ha hr hb hr') hk
      ·exact go _ _ _ _ (.callT live ho' hg hn hop hc hf ha hr hb hh hl hr') hk
     ·exact hv.elim
    ·refine plain ?_;rw[hop];exact hv
   ·exact plain hv
  ·rename_i hg
   rw[←hgd] at hg;exact go _ _ _ _ (.skip ho' hg hn) hv
  ·exact hv.elim
theorem W.region {id:Nat} {ops:List Oper} {k:Nat} (hk:ops.length=k) (hv:VL P Θ N ops n 0 ops t h (n+k) [] fun _ t h n=>Q .normal t h n):W P Θ N (.region id ⟨ops⟩ false) t h n Q:=by
 subst hk;obtain⟨cs,t',h',x',hb,hk⟩:=VL_sound ops 0 t h _ [] _ (by simp) hv;refine⟨.normal,t',h',x',.region (cs:=cs) ?_ (fun h=>by cases h),hk⟩;rw[List.range_eq_range'];exact hb
theorem W.draw {id:Nat} {ops:List Oper} {k:Nat} (hk:ops.length=k) (hv:VL P Θ N ops n 0 ops t h (n+k) [] fun cs t h n=>drawOK ⟨ops⟩ cs.reverse=true∧Q .normal t h n):W P Θ N (.region id ⟨ops⟩ true) t h n Q:=by
 subst hk;obtain⟨cs,t',h',x',hb,hd,hk⟩:=VL_sound ops 0 t h _ [] _ (by simp) hv;refine⟨.normal,t',h',x',.region (cs:=cs) ?_ (fun _=>by simpa using hd),hk⟩;rw[List.range_eq_range'];exact hb
theorem W.mono {c:Code} {Q':AEx→Fr→Heap→Nat→Prop} (hw:W P Θ N c t h n Q) (hq:∀e t h n,Q e t h n→Q' e t h n):W P Θ N c t h n Q':=by
 obtain⟨e,t',h',n',hb,hk⟩:=hw;exact⟨e,t',h',n',hb,hq _ _ _ _ hk⟩
def andThen (K:Fr→Heap→Nat→Prop) (Q:AEx→Fr→Heap→Nat→Prop):AEx→Fr→Heap→Nat→Prop
 | .normal,t,h,n=>K t h n
 |e,t,h,n=>Q e t h n
theorem W.seq {a b:Code} (hw:W P Θ N a t h n (andThen (fun t h n=>W P Θ N b t h n Q) Q)):W P Θ N (.seq a b) t h n Q:=by
 obtain⟨e,t',h',n',hb,hk⟩:=hw
 cases e with
 |normal=>
  obtain⟨e2,t2,h2,n2,b2,k2⟩:=hk;exact⟨e2,t2,h2,n2,.seq hb b2,k2⟩
 |exit i=>exact⟨_,_,_,_,.seqx (by simp) hb,hk⟩
 |goto i=>exact⟨_,_,_,_,.seqx (by simp) hb,hk⟩
 |ret=>exact⟨_,_,_,_,.seqx (by simp) hb,hk⟩
theorem W.seqk {a b:Code} (hw:∀K:Fr→Heap→Nat→Prop,(∀t h n,W P Θ N b t h n Q→K t h n)→W P Θ N a t h n (andThen K Q)):W P Θ N (.seq a b) t h n Q:=
 W.seq (hw _ fun _ _ _ h=>h)
theorem W.rseq {id:Nat} {ops:List Oper} {k:Nat} {b:Code} (hk:ops.length=k) (hv:∀K:Fr→Heap→Nat→Prop,(∀t h n,W P Θ N b t h n Q→K t h n)→VL P Θ N ops n 0 ops t h (n+k) [] fun _ t h n=>K t h n):W P Θ N (.seq (.region id ⟨ops⟩ false) b) t h n Q:=
 W.seq (W.region hk (hv _ fun _ _ _ h=>h))
theorem W.dseq {id:Nat} {ops:List Oper} {k:Nat} {b:Code} (hk:ops.length=k) (hv:∀K:List Cls→Fr→Heap→Nat→Prop,(∀cs t h n,drawOK ⟨ops⟩ cs.reverse=true→W P Θ N b t h n Q→K cs t h n)→VL P Θ N ops n 0 ops t h (n+k) [] K):W P Θ N (.seq (.region id ⟨ops⟩ true) b) t h n Q:=
 W.seq (W.draw hk (hv _ fun _ _ _ _ h1 h2=>⟨h1,h2⟩))
theorem W.cond {c:Operand} {a b:Code} {r:Bool} (hc:ev t c=some (.bool r)) (h1:r=true→W P Θ N a t h n Q) (h2:r=false→W P Θ N b t h n Q):W P Θ N (.cond c a b) t h n Q:=by
 cases r with
 |true=>
  obtain⟨e,t',h',n',hb,hk⟩:=h1 rfl;exact⟨_,_,_,_,.condT hc hb,hk⟩
 |false=>
  obtain⟨e,t',h',n',hb,hk⟩:=h2 rfl;exact⟨_,_,_,_,.condF hc hb,hk⟩
theorem W.condT {c:Operand} {a b:Code} (hc:ev t c=some (.bool true)) (h1:W P Θ N a t h n Q):W P Θ N (.cond c a b) t h n Q:=W.cond hc (fun _=>h1) (fun h=>by cases h)
theorem W.condF {c:Operand} {a b:Code} (hc:ev t c=some (.bool false)) (h1:W P Θ N b t h n Q):W P Θ N (.cond c a b) t h n Q:=W.cond hc (fun h=>by cases h) (fun _=>h1)
theorem W.skip (hk:Q .normal t h n):W P Θ N .skip t h n Q:=⟨_,_,_,_,.cskip,hk⟩
theorem W.label {l:Nat} (hk:Q .normal t h n):W P Θ N (.label l) t h n Q:=⟨_,_,_,_,.label,hk⟩
theorem W.exit {i:Nat} (hk:Q (.exit i) t h n):W P Θ N (.exit i) t h n Q:=⟨_,_,_,_,.exit,hk⟩
theorem W.ret (hk:Q .ret t h n):W P Θ N .ret t h n Q:=⟨_,_,_,_,.ret,hk⟩
def inBlock (id:Nat) (Q:AEx→Fr→Heap→Nat→Prop):AEx→Fr→Heap→Nat→Prop
 | .exit i,t,h,n=>if i=id then Q .normal t h n else Q (.exit i) t h n
 |e,t,h,n=>Q e t h n
theorem W.block {id:Nat} {c:Code} (hw:W P Θ N c t h n (inBlock id Q)):W P Θ N (.block id c) t h n Q:=by
 obtain⟨e,t',h',n',hb,hk⟩:=hw
 cases e with
 |normal=>exact⟨_,_,_,_,.block hb,hk⟩
 |exit i=>
  simp only[inBlock] at hk;split at hk
  ·rename_i hi;subst hi;exact⟨_,_,_,_,.blockX hb,hk⟩
  ·rename_i hi;exact⟨_,_,_,_,.blockE (by simp) (by simpa using hi) hb,hk⟩
 |goto i=>exact⟨_,_,_,_,.blockE (by simp) (by simp) hb,hk⟩
 |ret=>exact⟨_,_,_,_,.blockE (by simp) (by simp) hb,hk⟩
theorem W.loop {c:Code} (hw:W P Θ N c t h n (andThen (fun t h n=>W P Θ N (.loop c) t h n Q) Q)):W P Θ N (.loop c) t h n Q:=by
 obtain⟨e,t',h',n',hb,hk⟩:=hw
 cases e with
 |normal=>
  obtain⟨e2,t2,h2,n2,b2,k2⟩:=hk;exact⟨e2,t2,h2,n2,.loop hb b2,k2⟩
 |exit i=>exact⟨_,_,_,_,.loopE (by simp) hb,hk⟩
 |goto i=>exact⟨_,_,_,_,.loopE (by simp) hb,hk⟩
 |ret=>exact⟨_,_,_,_,.loopE (by simp) hb,hk⟩
theorem W.while {c:Code} (I:Nat→Fr→Heap→Nat→Prop) (k:Nat) (hI:I k t h n) (hs:∀k t h n,I k t h n→W P Θ N c t h n (andThen (fun t' h' n'=>∃k',k'<k∧I k' t' h' n') Q)):W P Θ N (.loop c) t h n Q:=by
 induction k using Nat.strongRecOn generalizing t h n with
 |_ k ih=>
  refine W.loop (W.mono (hs k t h n hI) fun e t' h' n' hq=>?_)
  cases e with
  |normal=>obtain⟨k',hk,hI'⟩:=hq;exact ih k' hk hI'
  |exit i=>exact hq
  |goto l=>exact hq
  |ret=>exact hq
theorem W.scope {c:Code} (hw:WS P Θ N c c t h n Q):W P Θ N (.scope c) t h n Q:=by
 obtain⟨e,t',h',n',hb,hk⟩:=hw;exact⟨_,_,_,_,.scope hb,hk⟩
def jump (P:Program) (Θ:Tab) (N:Nat) (body:Code) (Q:AEx→Fr→Heap→Nat→Prop):AEx→Fr→Heap→Nat→Prop
 | .goto l,t,h,n=>∃rest,findLabel body l=some rest∧WS P Θ N body rest t h n Q
 |e,t,h,n=>Q e t h n
theorem WS.code {body c:Code} (hw:W P Θ N c t h n (jump P Θ N body Q)):WS P Θ N body c t h n Q:=by
 obtain⟨e,t',h',n',hb,hk⟩:=hw
 cases e with
 |normal=>exact⟨_,_,_,_,.scpD (by simp) hb,hk⟩
 |exit i=>exact⟨_,_,_,_,.scpD (by simp) hb,hk⟩
 |goto l=>
  obtain⟨rest,hf,e2,t2,h2,n2,b2,k2⟩:=hk;exact⟨_,_,_,_,.scpG hb hf b2,k2⟩
 |ret=>exact⟨_,_,_,_,.scpD (by simp) hb,hk⟩
def FH (P:Program) (Θ:Tab) (f:FuncId) (args:List AV) (h:Heap) (n:Nat) (R:AV→Heap→Nat→Prop):Prop:=
 ∃res h' n',Big P Θ (.fn f args h n res h' n')∧R res h' n'
def atEnd (Θ:Tab) (rs:Array ResultVar) (R:AV→Heap→Nat→Prop):AEx→Fr→Heap→Nat→Prop
 | .normal,t,h,n| .ret,t,h,n=>match ares Θ rs t h with
   |some r=>R r h n
   |none=>False
 |_,_,_,_=>False
theorem FH.of {f:FuncId} {fn:Func} {c:Code} {rs:Array ResultVar} {args:List AV} {R:AV→Heap→Nat→Prop} (hf:P.funcs[f]?=some fn) (hb:fn.body=some c) (hN:fn.ntmps=N) (hl:args.length≤N) (hr:fn.results=rs) (hn:fn.name≠ "runtime.NumGoroutine")
  (hw:W P Θ N c (fr0 args) h n (atEnd Θ rs R)):FH P Θ f args h n R:=by
 subst hN;subst hr;obtain⟨e,t',h',n',hbig,hk⟩:=hw
 have fin:(e=.normal∨e=.ret)→(match ares Θ fn.results t' h' with
  |some r=>R r h' n'
  |none=>False)→FH P Θ f args h n R:=by
  intro he hk;split at hk
  ·rename_i r hr
   exact⟨r,h',n',.fn hf hb hl hn hbig he hr,hk⟩
  ·exact hk.elim
 cases e with
 |normal=>exact fin (.inl rfl) hk
 |exit i=>exact hk.elim
 |goto l=>exact hk.elim
 |ret=>exact fin (.inr rfl) hk
def PF (P:Program) (Θ:Tab) (f:FuncId) (args:List AV) (res:AV):Prop:=
 FH P Θ f args h0 0 fun r h1 _=>∃d,∀fr,rf fr d h1 r=some res
def PT (P:Program) (Θ:Tab) (f:FuncId) (args:List AV) (sz:Nat) (es:List (List AV)):Prop:=
 FH P Θ f args h0 0 fun r h1 _=>∃b,r=.sl b 0 es.length sz∧∃es0,h1 b=some (.cells es0)∧es0.length=es.length∧∃d,∀fr,rfe fr d (upd h1 b none) es0=some es
variable {s:Nat} {g:FuncId} {args as':List AV} {x:Nat} {k:Cls→AV→Heap→Nat→Prop}
theorem VCall.heap {R:AV→Heap→Nat→Prop} (hf:FH P Θ g args h x R) (hk:∀r h' x',R r h' x'→k .W r h' x'):VCall P Θ s g args h x k:=by
 obtain⟨r,h',n',hb,hR⟩:=hf;exact .inl ⟨r,h',n',hb,hk _ _ _ hR⟩
theorem VCall.frz {res:AV} (d:Nat) (hf:PF P Θ g args res) (hr:rfs true d h0 args=some args) (hk:k .L res h x):VCall P Θ s g args h x k:=by
 obtain⟨r,h',n',hb,d',hR⟩:=hf;exact .inr (.inl ⟨false,d,d',_,r,res,h',n',hr,hb,hR _,hk⟩)
theorem VCall.frzq {res:AV} (d:Nat) (hr:rfs true d h args=some as') (hf:PF P Θ g as' res) (hk:k .Q res h x):VCall P Θ s g args h x k:=by
 obtain⟨r,h',n',hb,d',hR⟩:=hf;exact .inr (.inl ⟨true,d,d',_,r,res,h',n',hr,hb,hR _,hk⟩)
theorem VCall.own {sz:Nat} {es:List (List AV)} (d:Nat) (hf:PT P Θ g args sz es) (hr:rfs true d h0 args=some args) (hk:k .L (.sl s 0 es.length sz) (upd h s (some (.cells es))) x):VCall P Θ s g args h x k:=by
 obtain⟨r,h',n',hb,b,rfl,es0,hh,hl,d',hR⟩:=hf;exact .inr (.inr ⟨false,d,d',_,b,_,sz,es0,es,h',n',hr,hb,hh,hl.symm,hR _,hk⟩)
theorem VCall.ownq {sz:Nat} {es:List (List AV)} (d:Nat) (hr:rfs true d h args=some as') (hf:PT P Θ g as' sz es) (hk:k .Q (.sl s 0 es.length sz) (upd h s (some (.cells es))) x):VCall P Θ s g args h x k:=by
 obtain⟨r,h',n',hb,b,rfl,es0,hh,hl,d',hR⟩:=hf;exact .inr (.inr ⟨true,d,d',_,b,_,sz,es0,es,h',n',hr,hb,hh,hl.symm,hR _,hk⟩)
theorem put_app {t:Fr} {d x:Nat} {v:AV}:put t (some d) v x=if x=d then v else t x:=rfl
theorem put_none {t:Fr} {v:AV}:put t none v=t:=rfl
theorem fr0_zero {a:AV} {l:List AV}:fr0 (a::l) 0=a:=rfl
theorem fr0_succ {a:AV} {l:List AV} {x:Nat}:fr0 (a::l) (x+1)=fr0 l x:=rfl
theorem fr0_nil {x:Nat}:fr0 [] x=.any:=rfl
theorem wrap64 {x:Int} (h1: -9223372036854775808≤x) (h2:x<9223372036854775808):IntKind.wrap .i64 x=x:=by
 unfold IntKind.wrap;simp only[IntKind.bits,IntKind.signed];simp;omega
end
end Go.Av
namespace Go.Av
theorem rdCls_five {n0:Nat} {x:AV}:(rdCls n0 x).five=true:=by
 unfold rdCls;repeat' split
 all_goals rfl
theorem P1_five {v:Option AV} {r:Cls×AV×Upd} (h:P1 v=some r):r.1.five=true:=by
 unfold P1 at h;obtain⟨a,_,rfl⟩:=Option.map_eq_some_iff.1 h;rfl
theorem aAlloc_five {ti:TI} {s:Nat} {r:Cls×AV×Upd} (h:aAlloc ti s=some r):r.1.five=true:=by unfold aAlloc at h;((repeat' split at h)<;>first|(cases h;done)|(simp only[Option.some.injEq] at h;subst h;first|rfl|exact rdCls_five|(split<;>rfl))|exact P1_five h)
theorem aBox_five {s:Nat} {x:AV} {r:Cls×AV×Upd} (h:aBox s x=some r):r.1.five=true:=by unfold aBox at h;((repeat' split at h)<;>first|(cases h;done)|(simp only[Option.some.injEq] at h;subst h;first|rfl|exact rdCls_five|(split<;>rfl))|exact P1_five h)
theorem aBuild_five {ti:TI} {x:List (Nat×AV)} {r:Cls×AV×Upd} (h:aBuild ti x=some r):r.1.five=true:=by unfold aBuild at h;((repeat' split at h)<;>first|(cases h;done)|(simp only[Option.some.injEq] at h;subst h;first|rfl|exact rdCls_five|(split<;>rfl))|exact P1_five h)
theorem aBuildSlice_five {ti:TI} {a b:Nat} {x:List (Nat×AV)} {r:Cls×AV×Upd} (h:aBuildSlice ti a b x=some r):r.1.five=true:=by unfold aBuildSlice at h;((repeat' split at h)<;>first|(cases h;done)|(simp only[Option.some.injEq] at h;subst h;first|rfl|exact rdCls_five|(split<;>rfl))|exact P1_five h)
theorem aLoad_five {ti:TI} {a:Heap} {b:Nat} {x:AV} {r:Cls×AV×Upd} (h:aLoad ti a b x=some r):r.1.five=true:=by unfold aLoad at h;((repeat' split at h)<;>first|(cases h;done)|(simp only[Option.some.injEq] at h;subst h;first|rfl|exact rdCls_five|(split<;>rfl))|exact P1_five h)
theorem aStore_five {ti:TI} {a:Heap} {b x:AV} {r:Cls×AV×Upd} (h:aStore ti a b x=some r):r.1.five=true:=by unfold aStore at h;((repeat' split at h)<;>first|(cases h;done)|(simp only[Option.some.injEq] at h;subst h;first|rfl|exact rdCls_five|(split<;>rfl))|exact P1_five h)
theorem aMake_five {ti:TI} {a:Nat} {b x:AV} {r:Cls×AV×Upd} (h:aMake ti a b x=some r):r.1.five=true:=by unfold aMake at h;((repeat' split at h)<;>first|(cases h;done)|(simp only[Option.some.injEq] at h;subst h;first|rfl|exact rdCls_five|(split<;>rfl))|exact P1_five h)
theorem aField_five {ti:TI} {a:AV} {b:Nat} {r:Cls×AV×Upd} (h:aField ti a b=some r):r.1.five=true:=by unfold aField at h;((repeat' split at h)<;>first|(cases h;done)|(simp only[Option.some.injEq] at h;subst h;first|rfl|exact rdCls_five|(split<;>rfl))|exact P1_five h)
theorem aFieldV_five {ti:TI} {a:AV} {b:Nat} {r:Cls×AV×Upd} (h:aFieldV ti a b=some r):r.1.five=true:=by unfold aFieldV at h;((repeat' split at h)<;>first|(cases h;done)|(simp only[Option.some.injEq] at h;subst h;first|rfl|exact rdCls_five|(split<;>rfl))|exact P1_five h)
theorem aIndexAddr_five {ti:TI} {a b:AV} {r:Cls×AV×Upd} (h:aIndexAddr ti a b=some r):r.1.five=true:=by unfold aIndexAddr at h;((repeat' split at h)<;>first|(cases h;done)|(simp only[Option.some.injEq] at h;subst h;first|rfl|exact rdCls_five|(split<;>rfl))|exact P1_five h)
theorem aIndex_five {ti:TI} {a b:AV} {r:Cls×AV×Upd} (h:aIndex ti a b=some r):r.1.five=true:=by unfold aIndex at h;((repeat' split at h)<;>first|(cases h;done)|(simp only[Option.some.injEq] at h;subst h;first|rfl|exact rdCls_five|(split<;>rfl))|exact P1_five h)
theorem aSlice_five {ti:TI} {a:AV} {b c d:Option AV} {r:Cls×AV×Upd} (h:aSlice ti a b c d=some r):r.1.five=true:=by unfold aSlice at h;((repeat' split at h)<;>first|(cases h;done)|(simp only[Option.some.injEq] at h;subst h;first|rfl|exact rdCls_five|(split<;>rfl))|exact P1_five h)
theorem aAppend_five {ti:TI} {a:Heap} {b c:Nat} {d e:AV} {r:Cls×AV×Upd} (h:aAppend ti a b c d e=some r):r.1.five=true:=by unfold aAppend at h;((repeat' split at h)<;>first|(cases h;done)|(simp only[Option.some.injEq] at h;subst h;first|rfl|exact rdCls_five|(split<;>rfl))|exact P1_five h)
theorem aLen_five {a:Heap} {b:Nat} {c:AV} {r:Cls×AV×Upd} (h:aLen a b c=some r):r.1.five=true:=by unfold aLen at h;((repeat' split at h)<;>first|(cases h;done)|(simp only[Option.some.injEq] at h;subst h;first|rfl|exact rdCls_five|(split<;>rfl))|exact P1_five h)
theorem aLookup_five {a:TI} {b:Heap} {c:Nat} {d e:AV} {f:Bool} {r:Cls×AV×Upd} (h:aLookup a b c d e f=some r):r.1.five=true:=by
 unfold aLookup at h;simp only at h
 ((repeat' split at h)<;>first|(cases h;done)|(simp only[Option.some.injEq] at h;subst h;first|rfl|exact rdCls_five|(split<;>rfl))|exact P1_five h)
theorem aMapUpdate_five {a:TI} {b:Heap} {c d e:AV} {r:Cls×AV×Upd} (h:aMapUpdate a b c d e=some r):r.1.five=true:=by unfold aMapUpdate at h;((repeat' split at h)<;>first|(cases h;done)|(simp only[Option.some.injEq] at h;subst h;first|rfl|exact rdCls_five|(split<;>rfl))|exact P1_five h)
theorem aBuiltin_five {Θ:Tab} {a:Builtin} {b:Array TypeId} {c:List AV} {d:Heap} {e f:Nat} {r:Cls×AV×Upd} (h:aBuiltin Θ a b c d e f=some r):r.1.five=true:=by
 unfold aBuiltin at h
 (repeat' split at h)<;>first|(cases h;done)|exact aLen_five h|exact aAppend_five h|exact P1_five h
theorem aop0_five {Θ:Tab} {op:Op} {t:Fr} {h:Heap} {n0 s:Nat} {r:Cls×AV×Upd} (e:aop0 Θ op t h n0 s=some r):r.1.five=true:=by
 unfold aop0 at e
 (repeat' split at e)<;>first|(cases e;done)|exact P1_five e|exact aAlloc_five e|exact aBox_five e|exact aBuild_five e|exact aBuildSlice_five e|exact aLoad_five e|exact aStore_five e|exact aMake_five e|exact aField_five e|exact aFieldV_five e|exact aIndexAddr_five e|exact aIndex_five e|exact aSlice_five e|exact aLookup_five e|exact aMapUpdate_five e|exact aBuiltin_five e|(simp only[Option.some.injEq] at e;subst e;rfl)
def orR (a b:Res):Res:=
 match a with
 |some r=>some r
 |none=>b
theorem orR_some {r:Cls×AV×Upd} {b:Res}:orR (some r) b=some r:=rfl
theorem orR_none {b:Res}:orR none b=b:=rfl
def aopR (Θ:Tab) (op:Op) (t:Fr) (h:Heap) (n0 s:Nat):Res:=
 match aopX Θ op t h n0 s with
 |some r=>five r
 |none=>match aop0 Θ op (plainF t) h n0 s with
  |some r=>five r
  |none=>none
def aopA (Θ:Tab) (op:Op) (t:Fr) (h:Heap) (n0 s:Nat):Res:=aop Θ op t h n0 s
def isU (Θ:Tab) (ts:Array TypeId):Bool:=
 match (ts[0]?).bind Θ with
 |some ti=>match ti.elem with
  |some k=>k==gU
  |none=>false
 |none=>false
section
variable {Θ:Tab} {t:Fr} {h:Heap} {n0 s:Nat}
theorem aop_eq0 {op:Op} (hT:aopT Θ op t h n0 s=none):aop Θ op t h n0 s=orR (aop0 Θ op t h n0 s) (aopR Θ op t h n0 s):=by
 unfold aop;rw[hT];simp only
 cases h0:aop0 Θ op t h n0 s with
 |none=>rfl
 |some r=>
  have:=aop0_five h0;simp only[orR,five,this,if_true]
theorem aop_move (x:Operand):aop Θ (.move x) t h n0 s=orR (aop0 Θ (.move x) t h n0 s) (aopR Θ (.move x) t h n0 s):=aop_eq0 rfl
theorem aop_assign (x:Operand):aop Θ (.assign x) t h n0 s=orR (aop0 Θ (.assign x) t h n0 s) (aopR Θ (.assign x) t h n0 s):=aop_eq0 rfl
theorem aop_pick (a b c:Operand):aop Θ (.pick a b c) t h n0 s=orR (aop0 Θ (.pick a b c) t h n0 s) (aopR Θ (.pick a b c) t h n0 s):=aop_eq0 rfl
theorem aop_box (a:TypeId) (x:Operand):aop Θ (.box a x) t h n0 s=orR (aop0 Θ (.box a x) t h n0 s) (aopR Θ (.box a x) t h n0 s):=aop_eq0 rfl
theorem aop_build (ty:TypeId) (ps:Array (Nat×Operand)):aop Θ (.build ty ps) t h n0 s=orR (aop0 Θ (.build ty ps) t h n0 s) (aopR Θ (.build ty ps) t h n0 s):=aop_eq0 rfl
theorem aop_buildSlice (ty:TypeId) (n:Nat) (ps:Array (Nat×Operand)):aop Θ (.buildSlice ty n ps) t h n0 s=orR (aop0 Θ (.buildSlice ty n ps) t h n0 s) (aopR Θ (.buildSlice ty n ps) t h n0 s):=aop_eq0 rfl
theorem aop_store (ty:TypeId) (a x:Operand):aop Θ (.store ty a x) t h n0 s=orR (aop0 Θ (.store ty a x) t h n0 s) (aopR Θ (.store ty a x) t h n0 s):=aop_eq0 rfl
theorem aop_nilCheck (x:Operand):aop Θ (.nilCheck x) t h n0 s=orR (aop0 Θ (.nilCheck x) t h n0 s) (aopR Θ (.nilCheck x) t h n0 s):=aop_eq0 rfl
theorem aop_binOp (op:BinOp) (ty:TypeId) (x y:Operand) (u:TypeId):aop Θ (.binOp op ty x y u) t h n0 s=orR (aop0 Θ (.binOp op ty x y u) t h n0 s) (aopR Θ (.binOp op ty x y u) t h n0 s):=aop_eq0 rfl
theorem aop_unOp (op:UnOp) (ty:TypeId) (x:Operand):aop Θ (.unOp op ty x) t h n0 s=orR (aop0 Θ (.unOp op ty x) t h n0 s) (aopR Θ (.unOp op ty x) t h n0 s):=aop_eq0 rfl
theorem aop_convert (a b:TypeId) (x:Operand):aop Θ (.convert a b x) t h n0 s=orR (aop0 Θ (.convert a b x) t h n0 s) (aopR Θ (.convert a b x) t h n0 s):=aop_eq0 rfl
theorem aop_makeSlice (ty:TypeId) (x y:Operand):aop Θ (.makeSlice ty x y) t h n0 s=orR (aop0 Θ (.makeSlice ty x y) t h n0 s) (aopR Θ (.makeSlice ty x y) t h n0 s):=aop_eq0 rfl
theorem aop_fieldAddr (ty:TypeId) (x:Operand) (f:Nat):aop Θ (.fieldAddr ty x f) t h n0 s=orR (aop0 Θ (.fieldAddr ty x f) t h n0 s) (aopR Θ (.fieldAddr ty x f) t h n0 s):=aop_eq0 rfl
theorem aop_field (ty:TypeId) (x:Operand) (f:Nat):aop Θ (.field ty x f) t h n0 s=orR (aop0 Θ (.field ty x f) t h n0 s) (aopR Θ (.field ty x f) t h n0 s):=aop_eq0 rfl
theorem aop_indexAddr (ty:TypeId) (x y:Operand):aop Θ (.indexAddr ty x y) t h n0 s=orR (aop0 Θ (.indexAddr ty x y) t h n0 s) (aopR Θ (.indexAddr ty x y) t h n0 s):=aop_eq0 rfl
theorem aop_index (ty:TypeId) (x y:Operand):aop Θ (.index ty x y) t h n0 s=orR (aop0 Θ (.index ty x y) t h n0 s) (aopR Θ (.index ty x y) t h n0 s):=aop_eq0 rfl
theorem aop_extract (x:Operand) (i:Nat):aop Θ (.extract x i) t h n0 s=orR (aop0 Θ (.extract x i) t h n0 s) (aopR Θ (.extract x i) t h n0 s):=aop_eq0 rfl
theorem aop_makeMap (ty:TypeId) (x:Option Operand):aop Θ (.makeMap ty x) t h n0 s=orR (aop0 Θ (.makeMap ty x) t h n0 s) (aopR Θ (.makeMap ty x) t h n0 s):=aop_eq0 rfl
theorem aop_lookup (ty:TypeId) (x y:Operand) (b:Bool):aop Θ (.lookup ty x y b) t h n0 s=orR (aop0 Θ (.lookup ty x y b) t h n0 s) (aopR Θ (.lookup ty x y b) t h n0 s):=aop_eq0 rfl
theorem aop_mapUpdate (ty:TypeId) (x y z:Operand):aop Θ (.mapUpdate ty x y z) t h n0 s=orR (aop0 Θ (.mapUpdate ty x y z) t h n0 s) (aopR Θ (.mapUpdate ty x y z) t h n0 s):=aop_eq0 rfl
theorem aop_slice (ty:TypeId) (x:Operand) (lo hi mx:Option Operand):aop Θ (.slice ty x lo hi mx) t h n0 s=orR (aop0 Θ (.slice ty x lo hi mx) t h n0 s) (aopR Θ (.slice ty x lo hi mx) t h n0 s):=aop_eq0 rfl
theorem aop_makeFunc (f:Fn) (a b:Array Operand):aop Θ (.makeFunc f a b) t h n0 s=orR (aop0 Θ (.makeFunc f a b) t h n0 s) (aopR Θ (.makeFunc f a b) t h n0 s):=aop_eq0 rfl
theorem aop_load (ty:TypeId) (x:Nat):aop Θ (.load ty (.tmp x)) t h n0 s=orR (aop0 Θ (.load ty (.tmp x)) t h n0 s) (aopR Θ (.load ty (.tmp x)) t h n0 s):=aop_eq0 rfl
theorem aop_alloc (ty:TypeId):aop Θ (.alloc ty) t h n0 s=if ty=119 then aopA Θ (.alloc ty) t h n0 s else orR (aop0 Θ (.alloc ty) t h n0 s) (aopR Θ (.alloc ty) t h n0 s):=by
 by_cases e:ty=119
 ·rw[if_pos e];rfl
 ·rw[if_neg e];refine aop_eq0 ?_;unfold aopT;exact if_neg e
theorem aop_len (as:Array Operand) (ts:Array TypeId):aop Θ (.call ⟨.builtin .len,as,ts⟩) t h n0 s=orR (aop0 Θ (.call ⟨.builtin .len,as,ts⟩) t h n0 s) (aopR Θ (.call ⟨.builtin .len,as,ts⟩) t h n0 s):=aop_eq0 rfl
theorem aop_min (as:Array Operand) (ts:Array TypeId):aop Θ (.call ⟨.builtin .min,as,ts⟩) t h n0 s=orR (aop0 Θ (.call ⟨.builtin .min,as,ts⟩) t h n0 s) (aopR Θ (.call ⟨.builtin .min,as,ts⟩) t h n0 s):=aop_eq0 rfl
theorem aop_max (as:Array Operand) (ts:Array TypeId):aop Θ (.call ⟨.builtin .max,as,ts⟩) t h n0 s=orR (aop0 Θ (.call ⟨.builtin .max,as,ts⟩) t h n0 s) (aopR Θ (.call ⟨.builtin .max,as,ts⟩) t h n0 s):=aop_eq0 rfl
theorem aop_copy (as:Array Operand) (ts:Array TypeId):aop Θ (.call ⟨.builtin .copy,as,ts⟩) t h n0 s=orR (aop0 Θ (.call ⟨.builtin .copy,as,ts⟩) t h n0 s) (aopR Θ (.call ⟨.builtin .copy,as,ts⟩) t h n0 s):=aop_eq0 rfl
theorem aop_cap (as:Array Operand) (ts:Array TypeId):aop Θ (.call ⟨.builtin .cap,as,ts⟩) t h n0 s=orR (aop0 Θ (.call ⟨.builtin .cap,as,ts⟩) t h n0 s) (aopR Θ (.call ⟨.builtin .cap,as,ts⟩) t h n0 s):=aop_eq0 rfl
theorem aop_delete (as:Array Operand) (ts:Array TypeId):aop Θ (.call ⟨.builtin .delete,as,ts⟩) t h n0 s=orR (aop0 Θ (.call ⟨.builtin .delete,as,ts⟩) t h n0 s) (aopR Θ (.call ⟨.builtin .delete,as,ts⟩) t h n0 s):=aop_eq0 rfl
theorem aop_clear (as:Array Operand) (ts:Array TypeId):aop Θ (.call ⟨.builtin .clear,as,ts⟩) t h n0 s=orR (aop0 Θ (.call ⟨.builtin .clear,as,ts⟩) t h n0 s) (aopR Θ (.call ⟨.builtin .clear,as,ts⟩) t h n0 s):=aop_eq0 rfl
theorem aop_append (as:Array Operand) (ts:Array TypeId):aop Θ (.call ⟨.builtin .append,as,ts⟩) t h n0 s=bif isU Θ ts then aopA Θ (.call ⟨.builtin .append,as,ts⟩) t h n0 s else orR (aop0 Θ (.call ⟨.builtin .append,as,ts⟩) t h n0 s) (aopR Θ (.call ⟨.builtin .append,as,ts⟩) t h n0 s):=by
 cases e:isU Θ ts with
 |true=>rfl
 |false=>
  refine aop_eq0 ?_;unfold aopT;simp only;split
  ·rename_i x y ti ti2 h1 h2 h3
   rw[if_neg]
   rintro ⟨q,_⟩
   unfold isU at e;rw[h2] at e;simp only[q,beq_self_eq_true] at e;cases e
  ·rfl
end
end Go.Av
namespace Go.Av
theorem upd_app {h:Heap} {b x:Nat} {o:Option AO}:upd h b o x=if x=b then o else h x:=rfl
theorem arr_isEmpty {α:Type}:(#[]:Array α).isEmpty=true:=rfl
theorem cast_lit {n:Nat}:((no_index (OfNat.ofNat n):Nat):Int)=OfNat.ofNat n:=rfl
theorem nlt1 {n k:Nat}:(n+k<n)=False:=by simp
theorem nlt2 {n k:Nat}:(n<n+k)=(0<k):=by simp
theorem int_beq {a b:Int}:(a==b)=decide (a=b):=by
 by_cases h:a=b<;>simp[h]
theorem int_bne {a b:Int}:(a !=b)= !decide (a=b):=by
 by_cases h:a=b<;>simp[h]
theorem upds_nil {h:Heap}:upds h []=h:=rfl
attribute [go_sem] int_beq int_bne nlt1 nlt2 Nat.add_lt_add_iff_left eq_self Int.reduceEq cast_lit and_true upds_nil arr_isEmpty VG_true VG_false VK_some VF_some VL_nil VL_cons VO gdL aop_move aop_assign aop_pick aop_box aop_build aop_buildSlice aop_store aop_nilCheck aop_binOp aop_unOp aop_convert aop_makeSlice aop_fieldAddr aop_field aop_indexAddr aop_index aop_extract aop_makeMap aop_lookup aop_mapUpdate aop_slice aop_len aop_min aop_max aop_copy aop_cap aop_delete aop_clear aop_makeFunc aop_load aop_alloc aop_append orR_some orR_none isU gU aop0 Nat.reduceBEq cond_false ev evs evp cv cv1 cvs P1 Option.map inN upds put_app put_none fr0_zero fr0_succ fr0_nil reduceIte Nat.reduceEqDiff Nat.reduceLT decide_true decide_false true_and Nat.reduceAdd Nat.zero_add Nat.add_zero
 aBuiltin aLen lenT aBin aNil orA aUn aConv aLoad aStore aAlloc aBox aBuild aBuildSlice aMake aField aFieldV aIndexAddr aIndex aSlice aAppend rdCells ofCells rdCls below cellsOf aEq eqs eq1 over fill fillS elems bd minInt Option.bind
 List.append_nil List.nil_append List.length_map List.getElem?_map and_self if_true Bool.false_eq_true if_false List.getElem?_toArray List.getElem?_cons_zero List.getElem?_cons_succ Int.natCast_nonneg Int.toNat_natCast
 List.length_cons List.length_nil List.drop_zero List.take_succ_cons List.take_zero Nat.le_refl List.drop_succ_cons Bool.not_true Bool.not_false andThen inBlock atEnd ares aresL ares1 Bool.and_true Bool.true_and upd_app List.all_cons List.all_nil scal Bool.and_self beq_true beq_false List.isEmpty_nil List.isEmpty_cons List.set_cons_zero List.set_cons_succ List.cons_append List.take_nil List.drop_nil List.append_assoc List.replicate_zero List.replicate_succ ge_iff_le gt_iff_lt Bool.true_eq_false Bool.and_false Bool.false_and Nat.lt_irrefl Nat.add_eq_left Nat.left_eq_add Nat.add_left_cancel_iff Nat.add_right_cancel_iff Nat.succ_ne_zero Nat.reduceSub Nat.reduceMul Nat.reduceLeDiff Nat.add_assoc Int.reduceLE Int.reduceLT Int.reduceToNat Int.reduceNeg
end Go.Av
