/-
  Functions that range over a function, or defer a call that turns nothing. Conditions: none.
-/
import Derived.Test.YtjpkjbobcicfoaaGreatDoorAE
set_option linter.unusedSimpArgs false
set_option linter.unusedVariables false
namespace Go.Av
def Quiet (P:Program) (k:FuncId) (args:Array Value):Prop:=
 ∀w,CallsDIn (wd none) 0 P k args .returning w fun e u' w'=>(∃v,e=.returned v)∧u'=.returning∧w'=w
def MarkOK (P:Program) (S F:Nat→Prop) (w:World) (d:Deferred):Prop:=
 (∃D,d.target=.collected D∧¬S D∧¬F D∧w.heap[D]?=some (.deferred (some [])))∨
   ∃k caps fn,d.target=.fn (.func k) caps∧d.args=#[]∧P.funcs[k]?=some fn∧fn.body.isSome=true∧fn.name≠ "runtime.NumGoroutine" ∧Quiet P k caps
def CQD (P:Program) (N:Nat) (e:AEx) (t':Fr) (h':Heap) (n':Nat) (w:World) (S F:Nat→Prop) (m:Pm) (n:Nat) (a:Act):Exit→Act→World→Prop:=
 fun ex a' w'=>ExR e ex∧∃S' m' d,St w S F m n w' S' m' n'∧TR w' S' m' N t' a'∧Rel w' S' (fun k=>F k∨d.target=.collected k) m' h'∧a'.defers=d::a.defers∧MarkOK P S' F w' d
def CodeD (P:Program) (N:Nat) (c:Code) (t:Fr) (h:Heap) (n:Nat) (e:AEx) (t':Fr) (h':Heap) (n':Nat):Prop:=
 AbsS h n h' n'∧∀w S F m a,Pre N t h n w S F m a→c.wpIn (wd none) 0 P (CQD P N e t' h' n' w S F m n a) a w
section
variable {P:Program} {Θ:Tab} {N:Nat}
theorem Rel.moreF {w:World} {S F F':Nat→Prop} {m:Pm} {g:Heap} (h:Rel w S F m g) (hf:∀k,F' k→F k):Rel w S F' m g:=
 ⟨h.content,h.disj,fun b o p hg hm=>⟨(h.apart b o p hg hm).1,fun hk=>(h.apart b o p hg hm).2 (hf _ hk)⟩,h.inS,fun k hk=>h.inF k (hf k hk),h.inm,h.glob⟩
theorem sd_seqL {x y:Code} {t t1 t':Fr} {h h1 h':Heap} {n n1 n':Nat} {e:AEx} (ha:CodeS P N x t h n .normal t1 h1 n1) (hb:CodeD P N y t1 h1 n1 e t' h' n'):CodeD P N (.seq x y) t h n e t' h' n':=by
 refine⟨ha.1.trans hb.1,fun w S F m a hp=>?_⟩;refine wpIn_seq (wpIn_mono (ha.2.1 w S F m a hp none) fun ex a1 w1 hq=>?_);obtain rfl:=ExR.normal hq.1;obtain⟨S1,m1,k1,k2,k3⟩:=hq.pre hp ha.1;refine wpIn_mono (hb.2 w1 S1 F m1 a1 k2) fun ex a' w' hq'=>?_
 obtain⟨k0,S2,m2,d,q1,q2,q3,q4,q5⟩:=hq';exact⟨k0,S2,m2,d,k1.trans q1 ha.1.1,q2,q3,q4.trans (by rw[k3]),q5⟩
theorem sd_seqR {x y:Code} {t t1 t':Fr} {h h1 h':Heap} {n n1 n':Nat} {e:AEx} (ha:CodeD P N x t h n .normal t1 h1 n1) (hb:CodeS P N y t1 h1 n1 e t' h' n'):CodeD P N (.seq x y) t h n e t' h' n':=by
 refine⟨ha.1.trans hb.1,fun w S F m a hp=>?_⟩;refine wpIn_seq (wpIn_mono (ha.2 w S F m a hp) fun ex a1 w1 hq=>?_);obtain⟨hx,S1,m1,d,k1,k2,k3,k4,k5⟩:=hq;obtain rfl:=ExR.normal hx;have hpre:Pre N t1 h1 n1 w1 S1 (fun k=>F k∨d.target=.collected k) m1 a1:=⟨ha.1.2.2 hp.1,k3,k2,k1.free⟩;refine wpIn_mono (hb.2.1 w1 S1 _ m1 a1 hpre none) fun ex a' w' hq'=>?_
 obtain⟨v0,S2,m2,q1,q2,q3,q4⟩:=hq';have q1':St w1 S1 F m1 n1 w' S2 m2 n':=⟨q1.ext.mono fun k hk=>hk.imp id .inl,q1.grow,q1.new,q1.le,q1.old,q1.free⟩;refine⟨v0,S2,m2,d,k1.trans q1' ha.1.1,q2,q3,q4.trans k4, ?_⟩;rcases k5 with ⟨D,r1,r2,r3,r4⟩|h
 ·refine .inl ⟨D,r1,fun hk=>?_,r3,(q1.ext.same D (.inr (.inr r1))).trans r4⟩;rcases q1.new D hk with h|h
  ·exact r2 h
  ·have:=(Array.getElem?_eq_some_iff.1 r4).1;omega
 ·exact .inr h
theorem sd_seqx {x y:Code} {t t':Fr} {h h':Heap} {n n':Nat} {e:AEx} (he:e≠.normal) (ha:CodeD P N x t h n e t' h' n'):CodeD P N (.seq x y) t h n e t' h' n':=by
 refine⟨ha.1,fun w S F m a hp=>?_⟩;refine wpIn_seq (wpIn_mono (ha.2 w S F m a hp) fun ex a1 w1 hq=>?_);have:=hq.1.ne he
 cases ex with
 |normal=>exact absurd rfl this
 |_=>exact hq
theorem sd_block {id:Nat} {c:Code} {t t':Fr} {h h':Heap} {n n':Nat} {e e':AEx} (he:e=.normal∧e'=.normal∨e=.exit id∧e'=.normal∨e≠.exit id∧e'=e)
  (ha:CodeD P N c t h n e t' h' n'):CodeD P N (.block id c) t h n e' t' h' n':=by
 refine⟨ha.1,fun w S F m a hp=>?_⟩;refine wpIn_block (wpIn_mono (ha.2 w S F m a hp) fun ex a1 w1 hq=>?_)
 cases ex with
 |exit j=>
  simp only[Exit.inBlock];split
  ·rename_i hj;subst hj
   rcases he with ⟨rfl,rfl⟩|⟨rfl,rfl⟩|⟨h1,rfl⟩
   ·exact absurd hq.1 (by simp[ExR])
   ·exact⟨trivial,hq.2⟩
   ·have:=hq.1;cases e'<;>simp[ExR] at this
    subst this;exact absurd rfl h1
  ·rename_i hj
   rcases he with ⟨rfl,rfl⟩|⟨rfl,rfl⟩|⟨h1,rfl⟩
   ·exact absurd hq.1 (by simp[ExR])
   ·exact absurd hq.1.symm hj
   ·exact hq
 |normal=>
  rcases he with ⟨rfl,rfl⟩|⟨rfl,rfl⟩|⟨h1,rfl⟩
  ·exact hq
  ·exact absurd hq.1 (by simp[ExR])
  ·exact hq
 |_=>
  rcases he with ⟨rfl,rfl⟩|⟨rfl,rfl⟩|⟨h1,rfl⟩
  ·exact absurd hq.1 (by simp[ExR])
  ·exact absurd hq.1 (by simp[ExR])
  ·exact hq
def exOf:Option Code→Option AEx
 |none=>some .normal
 |some .ret=>some .ret
 |some (.exit i)=>some (.exit i)
 |some (.goto l)=>some (.goto l)
 |_=>none
theorem sd_range {g:Operand} {ps:Array Tmp} {assign body:Code} {t:Fr} {h h2:Heap} {n n2:Nat} {k:FuncId} {caps:List AV} {res:AV} {st:LoopState} {j:Option Code} {e:AEx} {M2:Nat} {ps2:List Nat} {as2 bd2:Code} {tt2:Fr} (hg:ev t g=some (.fn k caps))
  (hf:FnS P k (.yl n::caps) (upd h n (some (.loop N ps.toList assign body t .ready none))) (n+1) res h2 n2) (hb:h2 n=some (.loop M2 ps2 as2 bd2 tt2 st j)) (hst:st≠.busy) (hj:exOf j=some e):
  CodeD P N (.rangeFunc g ps assign body) t h n e t (upd h2 n none) n2:=by
 obtain⟨⟨f1,f2,f3⟩,hk,hF⟩:=hf;refine⟨⟨by omega,fun b hb hh=>?_,fun hfr b hb=>?_⟩,fun w S F m a hp=>?_⟩
 ·have e:b≠n:=by omega
  rw[upd_ne e];exact f2 b (by omega) (by rw[upd_ne e];exact hh)
 ·by_cases e:b=n
  ·subst e;rw[upd_same]
  ·rw[upd_ne e];exact f3 (fun c hc=>by rw[upd_ne (by omega)];exact hfr c (by omega)) b hb
 obtain⟨p1,p2,p3,p4⟩:=hp;refine wpIn_rangeFunc fun fn _=>?_
 have hgv:=EV.of (w:=w) (S:=S) (m:=m) (t:=t) (a:=a) (x:=g) p2.glob (fun i _=>p3.2 i) _ hg;generalize hgg:a.eval g=gv at hgv
 cases hgv with
 |fn _ _ vs hl hr=>
 obtain⟨fnn,hfn,hbod,hnm⟩:=hk;obtain⟨rec0,hrec0⟩:∃rec0:Loop,rec0={ state:=.ready,pending:=none,fn,tmps:=a.tmps,params:=ps,assign,body,defers:=w.heap.size }:=⟨_,rfl⟩;obtain⟨W1,hW1⟩:∃W1,W1=w.alloc (.deferred (some [])):=⟨_,rfl⟩;obtain⟨W2,hW2⟩:∃W2,W2=W1.alloc (.loop rec0):=⟨_,rfl⟩;have hs1:W1.heap.size=w.heap.size+1:=by rw[hW1];show(w.heap.push _).size=_;simp
 have hs2:W2.heap.size=w.heap.size+2:=by rw[hW2];show(W1.heap.push _).size=_;simp[hs1]
 have hE1:Ext (fun k=>k<w.heap.size) w W1:=by rw[hW1];exact ext_alloc w _
 have hE2:Ext (fun k=>k<W1.heap.size) W1 W2:=by rw[hW2];exact ext_alloc W1 _
 have hD1:W1.heap[w.heap.size]?=some (.deferred (some [])):=by rw[hW1];exact alloc_new w _
 have hD2:W2.heap[w.heap.size]?=some (.deferred (some [])):=(hE2.same _ (by omega)).trans hD1;have hL2:W2.heap[w.heap.size+1]?=some (.loop rec0):=by rw[hW2,←hs1];exact alloc_new W1 _
 -- the memory with the two blocks
 have hrel1:Rel W1 S (fun k=>F k∨k=w.heap.size) m h:=
  ⟨fun b o p hb hm=>(p2.content b o p hb hm).mono (hE1.mono p2.inS) (fun _ h=>h) (fun _ _ h=>h) (hE1.same _ (p2.inm b p hm)),p2.disj,
   fun b o p hb hm=>⟨(p2.apart b o p hb hm).1,fun hk=>hk.elim (p2.apart b o p hb hm).2 fun hk=>by have:=p2.inm b p hm;omega⟩,
   fun k hk=>Nat.lt_of_lt_of_le (p2.inS k hk) hE1.size,fun k hk=>hk.elim (fun h=>Nat.lt_of_lt_of_le (p2.inF k h) hE1.size) (fun h=>by omega),fun b p hm=>Nat.lt_of_lt_of_le (p2.inm b p hm) hE1.size,
   fun k a ha=>(p2.glob k a ha).mono (hE1.mono p2.inS) (fun _ h=>h) (fun _ _ h=>h)⟩
 have hrel2:Rel W2 S (fun k=>F k∨k=w.heap.size) (setm m n ⟨w.heap.size+1,0,0,0,0,none⟩) (upd h n (some (.loop N ps.toList assign body t .ready none))):=by
  refine hrel1.birth (p4 n (Nat.le_refl _)) hE2 (by show W1.heap.size≤w.heap.size+1;omega) (by show w.heap.size+1<W2.heap.size;omega) ?_;refine⟨rec0,hL2,by rw[hrec0],by rw[hrec0],by rw[hrec0],by rw[hrec0],by rw[hrec0],by rw[hrec0];exact p3.1,fun x=>?_⟩;rw[hrec0];exact(p3.2 x).mono ((hE1.trans hE2 fun k hk=>by omega).mono p2.inS) (fun _ h=>h) (setm_le (p4 n (Nat.le_refl _)))
 have hLR:LR W2 S (setm m n ⟨w.heap.size+1,0,0,0,0,none⟩) (.yl n::caps) (.func (.yield (w.heap.size+1)) #[] #[]::vs):=by
  refine LR.cons (.yl n _ setm_same) ?_;exact LR.mono ⟨hl,hr⟩ ((hE1.trans hE2 fun k hk=>by omega).mono p2.inS) (fun _ h=>h) (setm_le (p4 n (Nat.le_refl _)))
 have hcall:=hF W2 S (fun k=>F k∨k=w.heap.size) _ _ (fun b hb=>by rw[upd_ne (by omega)];exact p1 b (by omega)) hrel2 hLR (fun b hb=>by rw[setm_ne (by omega)];exact p4 b (by omega));have hargs:(#[Value.func (.yield (w.heap.size+1)) #[] #[]]++(⟨vs⟩:Array Value))=(Value.func (.yield (w.heap.size+1)) #[] #[]::vs).toArray:=by apply Array.ext';simp
 have hb':fnn.body.isNone=false:=by cases hbb:fnn.body<;>simp_all
 have hn':(fnn.name== "runtime.NumGoroutine")=false:=by simpa using hnm
 refine⟨w.heap.size+1,[{ target:=.collected w.heap.size,args:=#[] }],W2,{ target:=.fn (.func k) ⟨vs⟩,args:=#[.func (.yield (w.heap.size+1)) #[] #[]] },W2,k,
  (Value.func (.yield (w.heap.size+1)) #[] #[]::vs).toArray,W2, ?_, ?_,fun f' _=>wd_fn none f', ?_,wd_depth none 0,callsIn_wd ?_⟩
 ·rw[hW2,hW1,hrec0];exact run_enterLoop_outer _ _ _ _ _
 ·have hm:(rangeCall g (w.heap.size+1)).args.map a.eval=#[Value.func (.yield (w.heap.size+1)) #[] #[]]:=by simp[rangeCall,Act.eval]
  have hr:resolve a.eval (rangeCall g (w.heap.size+1)) 0=Deferred.ofValue (a.eval g) ((rangeCall g (w.heap.size+1)).args.map a.eval):=rfl;rw[hr,hm,hgg];simp[Deferred.ofValue]
 ·simp only[invoke,callFunc,program,Sem.run_bind,Sem.run,Result.andThen_ok,hfn,hn',hb',Bool.false_eq_true,if_false];rw[←hargs];rfl
 refine hcall.mono fun ee w3 he=>?_
 obtain⟨v,S3,m3,rfl,hst3,hv,hrel3⟩:=he;have hm3:m3 n=some ⟨w.heap.size+1,0,0,0,0,none⟩:=hst3.le n _ setm_same;obtain⟨rec,r1,r2,r3,r4,r5,r6,r7,r8⟩:=hrel3.content n _ _ hb hm3;have hend:=run_endLoop (P:=P) r1 (by rw[r2];exact hst);have hE4:=ext_put w3 (w.heap.size+1) (.loop { rec with state:=.exhausted });have hrel4:Rel (w3.putObj (w.heap.size+1) (.loop { rec with state:=.exhausted })) S3 (fun k=>F k∨k=w.heap.size) m3 (upd h2 n none):=hrel3.lost hb hm3 hE4;have hD3:w3.heap[w.heap.size]?=some (.deferred (some [])):=(hst3.ext.same _ (.inr (.inr rfl))).trans hD2;have hD4:(w3.putObj (w.heap.size+1) (.loop { rec with state:=.exhausted })).heap[w.heap.size]?=some (.deferred (some [])):=(World.putObj_heap_other (by omega)).trans hD3
 have hnS:¬S3 w.heap.size:=fun hk=>by
  rcases hst3.new _ hk with h|h
  ·have:=p2.inS _ h;omega
  ·omega
 have hnF:¬F w.heap.size:=fun hk=>by have:=p2.inF _ hk;omega
 have hextA:Ext (fun k=>S k∨F k) w W2:=(hE1.trans hE2 fun k hk=>by omega).old p2
 have hext:Ext (fun k=>S k∨F k) w (w3.putObj (w.heap.size+1) (.loop { rec with state:=.exhausted })):=by
  refine(hextA.trans hst3.ext fun k hk=>hk.imp id .inl).trans (hE4.mono fun k hk e=>?_) fun _ h=>h
  have:k<w.heap.size:=hk.elim (p2.inS k) (p2.inF k);omega
 have hSt:St w S F m n (w3.putObj (w.heap.size+1) (.loop { rec with state:=.exhausted })) S3 m3 n2:=
  ⟨hext,hst3.grow,fun k hk=>(hst3.new k hk).imp id fun h=>by omega,fun b p hb=>hst3.le b p (setm_le (p4 n (Nat.le_refl _)) b p hb),fun b hb=>by rw[hst3.old b (by omega),setm_ne (by omega)],hst3.free⟩
 have hTR:TR (w3.putObj (w.heap.size+1) (.loop { rec with state:=.exhausted })) S3 m3 N t { a with defers:=[{ target:=.collected w.heap.size,args:=#[] }]++a.defers }:=
  ⟨p3.1,fun x=>(p3.2 x).mono (hext.mono fun k hk=> .inl hk) hst3.grow hSt.le⟩
 have hrel5:Rel (w3.putObj (w.heap.size+1) (.loop { rec with state:=.exhausted })) S3 (fun k=>F k∨Target.collected w.heap.size=.collected k) m3 (upd h2 n none):=
  hrel4.moreF fun k hk=>hk.imp id fun h=>by simp only[Target.collected.injEq] at h;exact h.symm
 have fin:∀ex,ExR e ex→CQD P N e t (upd h2 n none) n2 w S F m n a ex { a with defers:=[{ target:=.collected w.heap.size,args:=#[] }]++a.defers } (w3.putObj (w.heap.size+1) (.loop { rec with state:=.exhausted })):=fun ex hx=>
  ⟨hx,S3,m3,{ target:=.collected w.heap.size,args:=#[] },hSt,hTR,hrel5,rfl,.inl ⟨w.heap.size,rfl,hnS,hnF,hD4⟩⟩
 refine⟨j,_,by rw[←r3];exact hend, ?_⟩;unfold exOf at hj;split at hj<;>simp only[Option.some.injEq,reduceCtorEq] at hj<;>subst hj
 ·exact fin .normal trivial
 ·exact wpIn_ret (fin .ret trivial)
 ·exact wpIn_exit (fin (.exit _) rfl)
 ·exact wpIn_goto (fin (.goto _) rfl)
theorem sd_defer {id:Nat} {o0 o1:Oper} {t t1:Fr} {h h1:Heap} {n n1:Nat} {c:Cls} {cl:Call} {f:Operand} {k:FuncId} {caps:List AV} {fn:Func} (h0:OpS P N #[o0,o1] n 0 ⟨t,h,n+2⟩ c ⟨t1,h1,n1⟩)
  (hop:o1.op=.defer cl) (hgu:o1.guard=none) (hds:o1.dst=none) (hca:cl.callee=.value f) (har:cl.args=#[]) (hf:ev t1 f=some (.fn k caps)) (hfn:P.funcs[k]?=some fn) (hb:fn.body.isSome=true) (hnm:fn.name≠ "runtime.NumGoroutine")
  (hq:∀vs:List Value,vs.length=caps.length→Quiet P k ⟨vs⟩):CodeD P N (.region id #[o0,o1] false) t h n .normal t1 h1 n1:=by
 obtain⟨o,v,u,H⟩:=h0;have ho:o=o0:=by have:=H.op;simpa using this.symm
 subst ho;have hx:=H.x;simp only at hx;refine⟨⟨by omega,fun b hb hh=>H.res b (by omega) (by simp only;omega) hh,fun hfr=>H.free (fun b hb=>hfr b (by simp only at hb;omega)) (by simp only;omega)⟩,fun w S F m a hp=>?_⟩;obtain⟨p1,p2,p3,p4⟩:=hp;refine wpIn_region ?_;show wpOpsIn (wd none) 0 P #[o,o1] _ [0,1] a w;rw[wpOpsIn_cons];refine H.sim none w S F m a h p2 (fun b o p _ _ h=>h) (fun _ _ _ _ _=>rfl) (fun x _=>p3.2 x) (p4 _ (by omega)) (fun _ b hb=>p4 b (by simp only at hb;omega)) (fun b hb=>p1 b (by simp only at hb;omega)) (by simp only;omega) _ _ fun v' w' S' m' e1 e2 e3 e4 e5 e6 _ e7 e8 e9=>?_
 have hrel:Rel w' S' F m' h1:=by
  cases hW:c.w with
  |true=>exact(e9 hW).less fun b o hb=>mg_le hb
  |false=>
   have:=(H.quiet hW).2.1;simp only at this;rw[this];exact e8 hW
 have old:∀b,b<n→m' b=m b:=fun b hb=>by
  cases hW:c.w with
  |true=>exact(e6 hW).1 b (by simp only;omega) (by omega)
  |false=>exact e5 hW b (by omega)
 have fre:∀b,n1≤b→m' b=none:=fun b hb=>by
  cases hW:c.w with
  |true=>exact(e6 hW).2 b hb
  |false=>
   have:=(H.quiet hW).1;simp only at this;rw[e5 hW b (by omega)];exact p4 b (by omega)
 have htr:TR w' S' m' N t1 (a.put o.dst v'):=by
  have:=H.t;simp only at this;rw[this];exact(p3.mono (e1.mono fun k hk=> .inl hk) e2 e4).put H.dst e7
 have hwant:Region.wanted o1 (yielded #[o,o1] (a.put o.dst v').tmps)=true:=by simp[Region.wanted,hgu]
 have hev:=EV.of (w:=w') (S:=S') (m:=m') (t:=t1) (a:=a.put o.dst v') (x:=f) hrel.glob (fun i _=>htr.2 i) _ hf;generalize hfv:(a.put o.dst v').eval f=fv at hev
 cases hev with
 |fn _ _ vs hl hr=>
 have hexec:(execOp (a.put o.dst v').eval o1).run P w'=.ok (.defer { target:=.fn (.func k) ⟨vs⟩,args:=#[] }) w':=by
  obtain⟨dst,op,type,pos,after,guard⟩:=o1;simp only at hop;subst hop;simp[execOp,resolve,hca,hfv,har,Deferred.ofValue,Sem.run_bind]
 show wpOpsIn (wd none) 0 P #[o,o1] _ [1] _ w';rw[wpOpsIn_cons];unfold wpOpIn;have h1:(#[o,o1]:Array Oper)[1]?=some o1:=rfl;simp only[h1,hwant,if_true];refine⟨fun f' _=>wd_fn none f', ?_⟩;show o1.uponIn (wd none) 0 P _ _ _ ((o1.semAt none _).run P w');rw[Oper.semAt_none,hexec,Oper.uponIn_defer];refine⟨trivial,S',m',{ target:=.fn (.func k) ⟨vs⟩,args:=#[] },⟨e1,e2,e3,e4,old,fre⟩, ?_,hrel.moreF (fun k hk=>hk.elim (fun h=>h) (fun h=>by cases h)), ?_,.inr ⟨k,⟨vs⟩,fn,rfl,rfl,hfn,hb,hnm,hq vs hl⟩⟩
 ·rw[hds];exact⟨htr.1,htr.2⟩
 ·rw[hds];show _::(a.put o.dst v').defers=_;cases o.dst<;>rfl
theorem snd_fnD (hT0:TabOK P Θ) {f:FuncId} {fn:Func} {c:Code} {args:List AV} {t':Fr} {h h':Heap} {n n':Nat} {e:AEx} {res:AV} (hf:P.funcs[f]?=some fn) (hb:fn.body=some c) (hN:args.length≤fn.ntmps) (hn:fn.name≠ "runtime.NumGoroutine")
  (ha:CodeD P fn.ntmps c (fr0 args) h n e t' h' n') (he:e=.normal∨e=.ret) (hr:ares Θ fn.results t' h'=some res):FnS P f args h n res h' n':=by
 refine⟨ha.1,⟨fn,hf,by simp[hb],hn⟩,fun w S F m vs hx hrel hL hfr=>?_⟩;refine(callsIn_wide (n:=0)).1 (callsIn_of_wp_marks hf hb trivial ?_)
 have hT:TR w S m fn.ntmps (fr0 args) { tmps:=vs.toArray++Array.replicate (fn.ntmps - vs.toArray.size) undef,defers:=[] }:=by
  refine⟨by simp[hL.1];omega,fun x=>?_⟩;unfold fr0;by_cases hx:x<args.length
  ·have e1:args.getD x .any=args[x]:=by simp[hx]
   have hx':x<vs.length:=by rw[hL.1];exact hx
   have e2:(vs.toArray++Array.replicate (fn.ntmps - vs.toArray.size) undef).getD x undef=vs[x]:=by
    rw[Array.getD_eq_getD_getElem?,Array.getElem?_append_left (by simpa using hx')];simp[hx']
   rw[e1,e2];exact hL.2 x _ _ (by simp[hx]) (by simp[hx'])
  ·have e1:args.getD x .any=.any:=by simp[Nat.le_of_not_lt hx]
   rw[e1];exact .any _
 refine wpIn_mono (ha.2 w S F m _ ⟨hx,hrel,hT,hfr⟩) fun ex a' w' hq=>?_
 obtain⟨hx,S',m',d,k1,k2,k3,k4,k5⟩:=hq
 have key:LeavesInM Fence.wide 0 P fn a'.tmps (fun e w'=>∃v S' m',e=.returned v∧St w S F m n w' S' m' n'∧VR w' S' m' res v∧Rel w' S' F m' h') a'.defers .returning w':=by
  rw[k4];refine⟨by simp, ?_⟩;rcases k5 with ⟨D,r1,r2,r3,r4⟩|⟨k,caps,fn',r1,r2,r3,r4,r5,r6⟩
  ·refine .inl ⟨D,w'.putObj D (.deferred none),r1,run_takeDeferred r4, ?_⟩;have hE:=ext_put w' D (.deferred none);have hES:Ext S' w' (w'.putObj D (.deferred none)):=hE.mono fun k hk e=>r2 (e▸hk)
   have hrel':Rel (w'.putObj D (.deferred none)) S' F m' h':=
    ⟨fun b o p hb hm=>(k3.content b o p hb hm).mono hES (fun _ h=>h) (fun _ _ h=>h) (hE.same _ fun e=>(k3.apart b o p hb hm).2 (.inr (by rw[r1,e]))),k3.disj,
     fun b o p hb hm=>⟨(k3.apart b o p hb hm).1,fun hk=>(k3.apart b o p hb hm).2 (.inl hk)⟩,fun k hk=>Nat.lt_of_lt_of_le (k3.inS k hk) hE.size,fun k hk=>Nat.lt_of_lt_of_le (k3.inF k (.inl hk)) hE.size,
     fun b p hm=>Nat.lt_of_lt_of_le (k3.inm b p hm) hE.size,fun k a ha=>(k3.glob k a ha).mono hES (fun _ h=>h) (fun _ _ h=>h)⟩
   obtain⟨u,hu,hv⟩:=ares_ok (P:=P) hT0 hrel' (k2.mono hES (fun _ h=>h) (fun _ _ h=>h)) hr
   exact⟨u,hu,u,S',m',rfl,⟨k1.ext.trans (hE.mono fun k hk e=>by
    subst e;rcases hk with hk|hk
    ·exact r2 (k1.grow _ hk)
    ·exact r3 hk) fun _ h=>h,k1.grow,k1.new,k1.le,k1.old,k1.free⟩,hv,hrel'⟩
  ·have hrel':Rel w' S' F m' h':=k3.moreF fun k hk=> .inl hk
   obtain⟨u,hu,hv⟩:=ares_ok (P:=P) hT0 hrel' k2 hr;have hb':fn'.body.isNone=false:=by cases hbb:fn'.body<;>simp_all
   have hn':(fn'.name== "runtime.NumGoroutine")=false:=by simpa using r5
   refine .inr ⟨fun h=>(by cases h),.func k,caps,k,caps,r1, ?_,fun g _=>trivial, ?_⟩
   ·rw[r1,r2];have hc:((#[]:Array Value)++caps)=caps:=by simp
    simp only[invoke,callFunc,program,Sem.run_bind,Sem.run,Result.andThen_ok,r3,hn',hb',Bool.false_eq_true,if_false,hc];rfl
   ·refine CallsDIn.mono (r6 w') fun e u' w'' hh=>?_
    obtain⟨⟨v,rfl⟩,rfl,rfl⟩:=hh;exact⟨u,hu,u,S',m',rfl,k1,hv,hrel'⟩
 rcases he with rfl|rfl
 ·rw[ExR.normal hx];exact key
 ·cases ex<;>simp[ExR] at hx
  exact key
end
end Go.Av
