/-
  Operations of finer classes; calls of bound methods, of functions without a body, of a loop's body. Conditions: none.
-/
import Derived.RangeFuncRecord
import Derived.Lib.Bytealg
import Derived.Lib.MakeNoZero
import Derived.Lib.ConvBytes
import Derived.Test.YtjpkjbobcicfoaaGreatDoorAD
set_option linter.unusedSimpArgs false
set_option linter.unusedVariables false
namespace Go.Av
def lkV (ok:Bool) (vz:AV) (cs:List AV):Option AV:=
 match ok,cs with
 |true,[u]=>some (.tup [u,.bool true])
 |true,[]=>some (.tup [vz,.bool false])
 |false,[u]=>some u
 |_,_=>none
section
variable {P:Program} {Θ:Tab} {N:Nat} {ops:Array Oper} {n0 i:Nat}
theorem op_K {σ σ':OS} {l:List (Nat×Query)} {s:List Nat} (h:OpS P N ops n0 i σ .W σ') (hk:∀x∈l,rdQ x.2 (σ'.h x.1)=rdQ x.2 (σ.h x.1)) (hs:∀b∈s,σ'.h b=σ.h b):OpS P N ops n0 i σ (.K l s) σ':=by
 obtain⟨o,v,u,h⟩:=h;refine⟨o,v,u,h.op,h.dst,h.t,h.x,(fun hc=>by cases hc),(fun hc=>by cases hc),(fun _ _ hc=>by cases hc),(fun _ hc=>by cases hc),(fun l' s' hc=>by cases hc;exact⟨hk,hs⟩),h.res,h.free, ?_⟩;intro ro w S F m a g hr hag hq hl hs' hx hfr hlt Q K hK;refine h.sim ro w S F m a g hr (fun b o p _ hm hb=>hag b o p ⟨(fun h=>by cases h),(fun _ h=>by cases h),(fun h=>by cases h),fun _ _ h=>by cases h⟩ hm hb) (fun _ _ _ hc=>by cases hc) hl hs' (fun _=>hx rfl) hfr hlt Q K ?_;intro v' w' S' m' e1 e2 e3 e4 e5 e6 e7 e8 e9 e10;exact hK v' w' S' m' e1 e2 e3 e4 (fun hc=>by cases hc) (fun _=>e6 rfl) (fun hc=>by cases hc) e8 (fun hc=>by cases hc) (fun _=>e10 rfl)
theorem op_N {t:Fr} {h:Heap} {x:Nat} {o:Oper} {v:AV} {ob:AO} (ho:ops[i]?=some o) (hg:gd ops t o=some true) (hd:inN N o.dst=true) (hnd:∀c,o.op≠.defer c)
  (hop:∀(w:World) (S F:Nat→Prop) (m:Pm) (g:Heap) (a:Act),(∀x∈o.op.operands,EV w S m t a x)→m (n0+i)=none→Rel w S F m g→Post P o a w S F m g (n0+i) v [(n0+i,some ob)]):
  OpS P N ops n0 i ⟨t,h,x⟩ (.N (n0+i)) ⟨put t o.dst v,upd h (n0+i) (some ob),x⟩:=by
 refine⟨o,v,[(n0+i,some ob)],ho,hd,rfl,Nat.le_refl _,(fun _=>⟨rfl,rfl,fun y hy=>by simp only[List.mem_singleton] at hy;subst hy;exact .inl ⟨rfl,by simp⟩⟩),(fun hc=>by cases hc),(fun _ _ hc=>by cases hc),(fun _ hc=>by cases hc;rfl),(fun _ _ hc=>by cases hc),
  (fun b hb _ hh=>by show upd _ _ _ b=none;rw[upd_ne hb];exact hh),(fun hf hlt b hb=>by show upd _ _ _ b=none;rw[upd_ne (by simp only at hb hlt;omega)];exact hf b hb), ?_⟩
 intro ro w S F m a g hr _ _ hl hs hx hfr hlt Q K hK;refine wpOp_of ho (gd_wanted hg hl) hnd ?_;obtain⟨v',w',m',h1,h2,h3,h4,h5,h6⟩:=hop w S F m g a (EV.looks hr.glob hl) hs hr;have done:K (a.put o.dst v') w':=hK v' w' S m' h2 (fun _ h=>h) (fun _ h=> .inl h) h3 (fun _ b hb=>h4 b hb) (fun hc=>by cases hc) (fun _ y hy hne=>by simp only[List.mem_singleton] at hy;subst hy;exact absurd rfl hne) h5 (fun _=>h6) (fun hc=>by cases hc);rcases h1 with h1|⟨h1,rfl⟩<;>rw[h1]<;>exact done
theorem op_R {t:Fr} {h:Heap} {x:Nat} {o:Oper} {v:AV} {b:Nat} {q:Query} (ho:ops[i]?=some o) (hg:gd ops t o=some true) (hd:inN N o.dst=true) (hnd:∀c,o.op≠.defer c) (hq:rdQ q (h b)≠none)
  (hop:∀(w:World) (S F:Nat→Prop) (m:Pm) (g:Heap) (a:Act),(∀x∈o.op.operands,EV w S m t a x)→(∀p,m b=some p→rdQ q (g b)=rdQ q (h b))→Rel w S F m g→
    ∃v',(execOp a.eval o).run P w=.ok (.value v') w∧VR w S m v v'):
  OpS P N ops n0 i ⟨t,h,x⟩ (.R b q) ⟨put t o.dst v,h,x⟩:=by
 refine⟨o,v,[],ho,hd,rfl,Nat.le_refl _,(fun _=>⟨rfl,rfl,fun y hy=>by cases hy⟩),(fun hc=>by cases hc),(fun _ _ hc=>by cases hc;exact⟨rfl,hq⟩),(fun _ hc=>by cases hc),(fun _ _ hc=>by cases hc),
  (fun b hb _ hh=>hh),(fun hf _=>hf), ?_⟩
 intro ro w S F m a g hr _ hqq hl hs hx hfr hlt Q K hK;refine wpOp_of ho (gd_wanted hg hl) hnd ?_;obtain⟨v',h1,h2⟩:=hop w S F m g a (EV.looks hr.glob hl) (fun p hm=>hqq b q p rfl hm) hr;rw[h1];exact hK v' w S m (Ext.refl _ _) (fun _ h=>h) (fun _ h=> .inl h) (fun _ _ h=>h) (fun _ b hb=>rfl) (fun hc=>by cases hc) (fun _ y hy=>by cases hy) h2 (fun _=>hr) (fun hc=>by cases hc)
theorem op_loadR (hT:TabOK P Θ) {t:Fr} {h:Heap} {x:Nat} {o:Oper} {ty:TypeId} {z:Operand} {ti:TI} {b j off:Nat} {cs:List AV} {v:AV} (ho:ops[i]?=some o) (hg:gd ops t o=some true) (hd:inN N o.dst=true) (hop:o.op=.load ty z)
  (hti:Θ ty=some ti) (hz:ev t z=some (.ptr b j off)) (hq:rdQ (.seg j off ti.size) (h b)=some cs) (hv:ofCells ti.agg cs=some v):
  OpS P N ops n0 i ⟨t,h,x⟩ (.R b (.seg j off ti.size)) ⟨put t o.dst v,h,x⟩:=by
 refine op_R ho hg hd (fun c hc=>by rw[hop] at hc;cases hc) (by rw[hq];simp) fun w S F m g a hev hgq hr=>?_
 have hx:=hev z (by rw[hop];simp[Op.operands]) _ hz;have hpm:∃p,m b=some p:=hx.ptr_inv;obtain⟨p,hp⟩:=hpm;have hgb:=(hgq p hp).trans hq
 have hload:aLoad ti g 0 (.ptr b j off)=some (rdCls 0 (.ptr b j off),v,[]):=by
  unfold rdQ at hgb;split at hgb
  ·rename_i q1 q2 q3 es heq1 heq2
   simp only[Query.seg.injEq] at heq1;obtain⟨rfl,rfl,rfl⟩:=heq1;split at hgb
   ·rename_i e he
    split at hgb
    ·rename_i hl
     simp only[Option.some.injEq] at hgb;subst hgb;simp only[aLoad,rdCells,heq2,he,hl,if_true,hv]
    ·cases hgb
   ·cases hgb
  ·rename_i heq1 _;cases heq1
  ·cases hgb
 obtain⟨_,v',h5,h6⟩:=load_ok (hT ty ti hti) hload hx (fun b o p _ hb hm=>hr.content b o p hb hm);obtain⟨dst,op,type,pos,after,guard⟩:=o;simp only at hop;subst hop;exact⟨v',by simp[execOp,h5],h6⟩
theorem op_lookupR (hT:TabOK P Θ) {t:Fr} {h:Heap} {x:Nat} {o:Oper} {ty:TypeId} {z y:Operand} {ok:Bool} {ti:TI} {b:Nat} {k:AV} {keq:List EK} {vz v:AV} {cs:List AV} (ho:ops[i]?=some o) (hg:gd ops t o=some true) (hd:inN N o.dst=true) (hop:o.op=.lookup ty z y ok)
  (hti:Θ ty=some ti) (hk:ti.kind=.map keq vz) (hz:ev t z=some (.mp b)) (hy:ev t y=some k) (hkey:keyOK keq k=true) (hq:rdQ (.key keq k (if ok then none else some vz)) (h b)=some cs)
  (hv:lkV ok vz cs=some v):
  OpS P N ops n0 i ⟨t,h,x⟩ (.R b (.key keq k (if ok then none else some vz))) ⟨put t o.dst v,h,x⟩:=by
 refine op_R ho hg hd (fun c hc=>by rw[hop] at hc;cases hc) (by rw[hq];simp) fun w S F m g a hev hgq hr=>?_
 have hx:=hev z (by rw[hop];simp[Op.operands]) _ hz;have hkv:=hev y (by rw[hop];simp[Op.operands]) _ hy
 have hpm:∃p,m b=some p:=by
  generalize a.eval z=zv at hx
  cases hx with
  |mp _ p hp=>exact⟨p,hp⟩
 obtain⟨p,hp⟩:=hpm;have hgb:=(hgq p hp).trans hq
 have hlook:aLookup ti g 0 (.mp b) k ok=some (rdCls 0 (.mp b),v,[]):=by
  unfold rdQ at hgb;split at hgb
  ·rename_i heq1 _;cases heq1
  ·rename_i k1 k2 k3 es heq1 heq2
   simp only[Query.key.injEq] at heq1;obtain⟨rfl,rfl,hd3⟩:=heq1;simp only[aLookup,hk,heq2,hkey,if_true];split at hgb
   ·rename_i vv hf
    simp only[Option.some.injEq] at hgb;subst hgb;cases ok
    ·simp only[lkV,Option.some.injEq] at hv;subst hv;rfl
    ·simp only[lkV,Option.some.injEq] at hv;subst hv;rfl
   ·rename_i hf
    simp only[Option.some.injEq] at hgb;subst hgb;cases ok
    ·simp only[Bool.false_eq_true,if_false] at hd3;subst hd3;simp only[lkV,Option.toList,Option.some.injEq] at hv;subst hv;rfl
    ·simp only[if_true] at hd3;subst hd3;simp only[lkV,Option.toList,Option.some.injEq] at hv;subst hv;rfl
   ·cases hgb
  ·cases hgb
 obtain⟨_,v',h5,h6⟩:=lookup_ok (hT ty ti hti) hlook hx hkv (fun b o p _ hb hm=>hr.content b o p hb hm);obtain⟨dst,op,type,pos,after,guard⟩:=o;simp only at hop;subst hop;exact⟨v',by simp[execOp,h5],h6⟩
theorem op_boxN {t:Fr} {h:Heap} {x:Nat} {o:Oper} {ty:TypeId} {z:Operand} {a1:AV} {cs:List AV} (ho:ops[i]?=some o) (hg:gd ops t o=some true) (hd:inN N o.dst=true) (hop:o.op=.box ty z)
  (hz:ev t z=some a1) (hc:cellsOf a1=some cs) (hsc:cs.all scal=true):
  OpS P N ops n0 i ⟨t,h,x⟩ (.N (n0+i)) ⟨put t o.dst (.ptr (n0+i) 0 0),upd h (n0+i) (some (.cells [cs])),x⟩:=by
 refine op_N ho hg hd (fun c hc=>by rw[hop] at hc;cases hc) fun w S F m g a hev hs hr=>?_
 have hb:aBox (n0+i) a1=some (.L,.ptr (n0+i) 0 0,[(n0+i,some (.cells [cs]))]):=by simp only[aBox,hc,hsc,if_true]
 obtain⟨v',w',p,h2,h3⟩:=box_ok (P:=P) (t:=ty) hb (hev z (by rw[hop];simp[Op.operands]) _ hz) hs hr;obtain⟨dst,op,type,pos,after,guard⟩:=o;simp only at hop;subst hop;exact .born hs ⟨v',w',p,by simp[execOp,h2],h3⟩
theorem op_allocN (hT:TabOK P Θ) {t:Fr} {h:Heap} {x:Nat} {o:Oper} {ty:TypeId} {ti:TI} (ho:ops[i]?=some o) (hg:gd ops t o=some true) (hd:inN N o.dst=true) (hop:o.op=.alloc ty)
  (hti:Θ ty=some ti) (hsc:ti.zero.all scal=true):
  OpS P N ops n0 i ⟨t,h,x⟩ (.N (n0+i)) ⟨put t o.dst (.ptr (n0+i) 0 0),upd h (n0+i) (some (.cells [ti.zero])),x⟩:=by
 refine op_N ho hg hd (fun c hc=>by rw[hop] at hc;cases hc) fun w S F m g a hev hs hr=>?_
 have hb:aAlloc ti (n0+i)=some (.L,.ptr (n0+i) 0 0,[(n0+i,some (.cells [ti.zero]))]):=by simp only[aAlloc,hsc,if_true]
 obtain⟨v',w',p,h2,h3⟩:=alloc_ok (hT ty ti hti) hb hs hr;obtain⟨dst,op,type,pos,after,guard⟩:=o;simp only at hop;subst hop;exact .born hs ⟨v',w',p,by simp[execOp,h2],h3⟩
theorem call_enterB {w:World} {S:Nat→Prop} {m:Pm} {o:Oper} {t:Fr} {a:Act} {cl:Call} {f:Operand} {k:FuncId} {first as:List AV} (hk:FnIn P k) (hop:o.op=.call cl) (hc:cl.callee=.value f) (hf:ev t f=some (.bm k first)) (ha:evs t cl.args.toList=some as)
  (hev:∀x∈o.op.operands,EV w S m t a x):∃vs,LR w S m (first++as) vs∧(execOp a.eval o).run P w=.ok (.enter k vs.toArray) w:=by
 obtain⟨fn,hfn,hb,hn⟩:=hk;have hops:o.op.operands=#[f]++cl.args:=by rw[hop];simp[Op.operands,Call.operands,hc]
 have hL:=evs_ok (w:=w) (S:=S) (m:=m) (a:=a) (fun x hx=>hev x (by rw[hops];simp;exact .inr (by simpa using hx))) ha;have hF:=hev f (by rw[hops];simp) _ hf;generalize hfv:a.eval f=fv at hF
 cases hF with
 |bm _ _ vs hl hr=>
 refine⟨vs++cl.args.toList.map a.eval,LR.append ⟨hl,hr⟩ hL, ?_⟩;have hargs:(⟨vs⟩:Array Value)++cl.args.map a.eval=(vs++cl.args.toList.map a.eval).toArray:=by apply Array.ext';simp
 have hb':fn.body.isNone=false:=by cases hbb:fn.body<;>simp_all
 have hn':(fn.name== "runtime.NumGoroutine")=false:=by simpa using hn
 obtain⟨dst,op,type,pos,after,guard⟩:=o;simp only at hop;subst hop;simp only[execOp,resolve,hc,hfv,Deferred.ofValue,Sem.run_bind,Sem.run_pure,Result.andThen_ok,invoke,callFunc,program,Sem.run,hfn,hn',hb',Bool.false_eq_true,if_false];simp[hargs]
theorem op_callB {t:Fr} {h:Heap} {x:Nat} {o:Oper} {cl:Call} {f:Operand} {k:FuncId} {first as:List AV} {res:AV} {h':Heap} {x':Nat}
  (ho:ops[i]?=some o) (hg:gd ops t o=some true) (hd:inN N o.dst=true) (hop:o.op=.call cl) (hc:cl.callee=.value f) (hf:ev t f=some (.bm k first)) (ha:evs t cl.args.toList=some as)
  (hb:FnS P k (first++as) h x res h' x'):OpS P N ops n0 i ⟨t,h,x⟩ .W ⟨put t o.dst res,h',x'⟩:=by
 obtain⟨⟨hx',hres,hfree⟩,hk,hb⟩:=hb;refine⟨o,res,[],ho,hd,rfl,hx',fun hc=>(by cases hc),(fun hc=>by cases hc),(fun _ _ hc=>by cases hc),(fun _ hc=>by cases hc),(fun _ _ hc=>by cases hc),fun b _ hb hh=>hres b hb hh,fun hf _ b hb=>hfree hf b hb,fun ro w S F m a g hr hag _ hl hs hx hfr hlt Q K hK=>?_⟩;refine wpOp_of ho (gd_wanted hg hl) (fun c hc=>by rw[hc] at hop;cases hop) ?_;obtain⟨vs,hL,hrun⟩:=call_enterB (P:=P) hk hop hc hf ha (EV.looks hr.glob hl);have hh:∀b o p,m b=some p→h b=some o→g b=some o:=fun b o p hm hb=>hag b o p (by simp[Cls.needs]) hm hb
 rw[hrun,Oper.uponIn_enter];refine⟨wd_depth ro 0,callsIn_wd ?_⟩;refine(hb w S _ m vs hfr (hr.under hh) hL (hx rfl)).mono fun e w' he=>?_
 obtain⟨v,S',m',rfl,hst,hv,hrel⟩:=he
 exact hK v w' S' m' (hst.ext.mono fun k hk=>hk.imp id .inl) hst.grow hst.new hst.le (fun hc=>by cases hc) (fun _=>⟨fun b hb _=>hst.old b hb,hst.free⟩) (fun hc=>by cases hc) hv (fun hc=>by cases hc)
  (fun _=>hr.over hrel hst.ext hst.grow hst.new hst.le)
def XFn (P:Program) (k:FuncId) (e:Array Value→Sem Value):Prop:=
 ∃fn,P.funcs[k]?=some fn∧(fn.name== "runtime.NumGoroutine")=false∧fn.body.isNone=true∧Extern.findNext fn=none∧Extern.find fn=some e
inductive XK where
 |index|count|same|zeros
def ixB:List UInt8→Nat→Int→Int
 |[],_,_=> -1
 |b::l,c,i=>if Nat.beq b.toNat c then i else ixB l c (i+1)
def cntB:List UInt8→Nat→Nat→Nat
 |[],_,n=>n
 |b::l,c,n=>if Nat.beq b.toNat c then cntB l c (n+1) else cntB l c n
def xExt (k:XK) (as:List AV) (s:Nat):Res:=
 match k,as with
 | .index,[.str a,.int .u8 c]=>if 0≤c∧c<256 then some (.P,.int .i64 (ixB a.data.toList c.toNat 0),[]) else none
 | .count,[.str a,.int .u8 c]=>if 0≤c∧c<256 then some (.P,.int .i64 (cntB a.data.toList c.toNat 0),[]) else none
 | .same,[a]=>some (.P,a,[])
 | .zeros,[.int .i64 n]=>if 0≤n∧n≤140737488355328 then some (.L,.ts s 0 n.toNat 1 gU,[(s,some (.cells (List.replicate n.toNat [.u8])))]) else none
 |_,_=>none
def XOK (P:Program) (k:FuncId):XK→Prop
 | .index=>XFn P k Extern.BytealgIndexByte.indexByte
 | .count=>XFn P k Extern.BytealgCount.count
 | .same=>XFn P k Extern.AbiNoEscape.same
 | .zeros=>∃ps t,XFn P k (Extern.BytealgMakeNoZero.makeNoZero ps #[t])∧P.underlying t=some (.slice gU)
theorem u8_beq (b:UInt8) {c:Nat} (hc:c<256):(b==c.toUInt8)=Nat.beq b.toNat c:=by
 rw[Bool.eq_iff_iff];simp only[Nat.beq_eq,beq_iff_eq];constructor
 ·intro h;subst h;simp[Nat.toUInt8,UInt8.toNat_ofNat',Nat.mod_eq_of_lt hc]
 ·intro h;apply UInt8.toNat_inj.1;simp[Nat.toUInt8,UInt8.toNat_ofNat',Nat.mod_eq_of_lt hc,h]
theorem ixB_ok {c:Nat} (hc:c<256):∀(l:List UInt8) (i:Int),ixB l c i=if Lib.indexByte l c.toUInt8= -1 then -1 else Lib.indexByte l c.toUInt8+i
 |[],i=>by simp[ixB,Lib.indexByte]
 |b::l,i=>by
  have ih:=ixB_ok hc l (i+1);have hge:=Lib.indexByte_ge l c.toUInt8;unfold ixB Lib.indexByte;rw[u8_beq b hc]
  cases hb:Nat.beq b.toNat c with
  |true=>simp
  |false=>
   simp only[Bool.false_eq_true,if_false];rw[ih];by_cases h1:Lib.indexByte l c.toUInt8= -1
   ·simp[h1]
   ·have h2:(Lib.indexByte l c.toUInt8== -1)=false:=by simpa using h1
    simp only[h1,if_false,h2,Bool.false_eq_true];rw[if_neg (by omega)];omega
theorem cntB_ok {c:Nat} (hc:c<256):∀(l:List UInt8) (n:Nat),cntB l c n=l.count c.toUInt8+n
 |[],n=>by simp[cntB]
 |b::l,n=>by
  unfold cntB;rw[List.count_cons,u8_beq b hc]
  cases hb:Nat.beq b.toNat c with
  |true=>simp[cntB_ok hc l (n+1)];omega
  |false=>simp[cntB_ok hc l n]
theorem digits_u8:∀(n t:Nat) (acc:Array Value),(∀c∈acc.toList,∃x,c=Value.int .u8 x)→∀c∈(Extern.BytealgMakeNoZero.digits n t acc).toList,∃x,c=Value.int .u8 x
 |0,_,acc,h,c,hc=>h c hc
 |n+1,t,acc,h,c,hc=>by
  rw[Extern.BytealgMakeNoZero.digits] at hc;refine digits_u8 n (t / 256) _ (fun c hc=>?_) c hc;simp only[Array.toList_push,List.mem_append,List.mem_singleton] at hc;rcases hc with hc|hc
  ·exact h c hc
  ·exact⟨_,hc⟩
theorem run_zeros (w:World) (ps:Array TypeId) (t e:TypeId) (ht:P.underlying t=some (.slice e)) (n:Nat) (hn:n≤281474976710656):
  ∃cs:Array Value,(Extern.BytealgMakeNoZero.makeNoZero ps #[t] #[.int .i64 n]).run P w=.ok (.slice (some ⟨w.heap.size,0,none⟩) n cs.size) (w.drew.drew.alloc (.cells cs e))∧n≤cs.size∧∀c∈cs.toList,∃x,c=Value.int .u8 x:=by
 have hdef:Extern.BytealgMakeNoZero.makeNoZero ps #[t] #[.int .i64 n]=
   (do
     let .slice elem ←underlying t|stuck "bytealg.MakeNoZero: slice type expected"
     if (n:Int)<0||(n:Int)>2^48 then runtimePanic (.error "makeslice: len out of range")
     let cap ←choose (.appendCap (n:Int).toNat 0 elem)
     askRoom cap
     let bytes ←choose (.extern "internal/bytealg.MakeNoZero.bytes" 0)
     let a ←newRow elem (Extern.BytealgMakeNoZero.digits cap bytes #[])
     pure (.slice (some a) (n:Int).toNat cap)):=rfl
 refine⟨Extern.BytealgMakeNoZero.digits (grownCap w n 0 e) ((Question.extern "internal/bytealg.MakeNoZero.bytes" 0).cut (w.tape (w.drawn+1) (.extern "internal/bytealg.MakeNoZero.bytes" 0))) #[], ?_, ?_, ?_⟩
 ·rw[hdef];have h1:¬(n:Int)<0:=by omega
  have h2:¬(281474976710656:Int)<(n:Int):=by omega
  simp[run_underlying ht,h1,h2,Question.forced,newRow,Lib.size_digits,grownCap]
 ·rw[Lib.size_digits];simpa using grownCap_ge w n 0 e
 ·exact digits_u8 _ _ _ (fun c hc=>by simp at hc)
theorem op_ext {k:XK} {f:FuncId} (hX:XOK P f k) {t:Fr} {h:Heap} {x:Nat} {o:Oper} {cl:Call} {z:Operand} {as:List AV} {c:Cls} {v:AV} {u:Upd} (ho:ops[i]?=some o) (hg:gd ops t o=some true) (hd:inN N o.dst=true) (hop:o.op=.call cl)
  (hc:cl.callee=.value z) (hf:ev t z=some (.fn f [])) (ha:evs t cl.args.toList=some as) (hx:xExt k as (n0+i)=some (c,v,u)):OpS P N ops n0 i ⟨t,h,x⟩ c ⟨put t o.dst v,upds h u,x⟩:=by
 have hu:UO (fun _=>True) c n0 (n0+i) h u:=by
  unfold xExt at hx
  repeat' split at hx
  all_goals first
   |(simp only[Option.some.injEq,Prod.mk.injEq] at hx;obtain⟨rfl,_,rfl⟩:=hx;first|exact nil_upd|exact one_upd (by simp))
   |cases hx
 have h5:c.five=true:=by
  unfold xExt at hx
  repeat' split at hx
  all_goals first
   |(simp only[Option.some.injEq,Prod.mk.injEq] at hx;obtain⟨rfl,_,_⟩:=hx;rfl)
   |cases hx
 refine op_post ho hg hd (fun c hc=>by rw[hc] at hop;cases hop) hu (not_five h5) fun w S F m g a hev hag hs hr=>?_
 have hops:o.op.operands=#[z]++cl.args:=by rw[hop];simp[Op.operands,Call.operands,hc]
 have hL:=evs_ok (w:=w) (S:=S) (m:=m) (a:=a) (fun x hx=>hev x (by rw[hops];simp;exact .inr (by simpa using hx))) ha;have hF:=hev z (by rw[hops];simp) _ hf
 have hfv:a.eval z=.func (.func f) #[] #[]:=by
  generalize a.eval z=fv at hF
  cases hF with
  |fn _ _ vs hl hr=>
   have:vs=[]:=by simpa using hl
   subst this;rfl
 have enter:∀(e:Array Value→Sem Value),XFn P f e→(execOp a.eval o).run P w=((e (cl.args.toList.map a.eval).toArray).run P w).andThen fun v w'=> .ok (.value v) w':=by
  rintro e ⟨fn,h1,h2,h3,h4,h6⟩
  have hr:=run_callFunc_extern h1 h2 h3 h4 h6 (cl.args.toList.map a.eval).toArray w;have hargs:cl.args.map a.eval=(cl.args.toList.map a.eval).toArray:=by apply Array.ext';simp
  obtain⟨dst,op,type,pos,after,guard⟩:=o;simp only at hop;subst hop;simp only[execOp,resolve,hc,hfv,Deferred.ofValue,Sem.run_bind,Sem.run_pure,Result.andThen_ok,invoke,hargs];simpa using hr
 generalize cl.args.toList.map a.eval=vs at hL enter;unfold xExt at hx;split at hx
 ·split at hx
  ·rename_i s c' hcond
   simp only[Option.some.injEq,Prod.mk.injEq] at hx;obtain⟨rfl,rfl,rfl⟩:=hx
   match vs,hL with
   |[a1,a2],hL=>
   have h1:=hL.2 0 _ _ rfl rfl;have h2:=hL.2 1 _ _ rfl rfl;cases h1;cases h2;have hc2:c'.toNat<256:=by omega
   refine⟨.pure hr rfl (v':=.int .i64 (Lib.indexByte s.data.toList c'.toNat.toUInt8)) ?_ ?_,fun y hy=>by cases hy⟩
   ·rw[enter _ hX];show((Extern.BytealgIndexByte.indexByte #[.string s,.int .u8 c']).run P w).andThen _=_;rw[Lib.run_indexByteString];rfl
   ·rw[ixB_ok hc2];split
    ·rename_i h;rw[h];exact .int _ _
    ·rw[Int.add_zero];exact .int _ _
  ·cases hx
 ·split at hx
  ·rename_i s c' hcond
   simp only[Option.some.injEq,Prod.mk.injEq] at hx;obtain⟨rfl,rfl,rfl⟩:=hx
   match vs,hL with
   |[a1,a2],hL=>
   have h1:=hL.2 0 _ _ rfl rfl;have h2:=hL.2 1 _ _ rfl rfl;cases h1;cases h2;have hc2:c'.toNat<256:=by omega
   refine⟨.pure hr rfl (v':=.int .i64 (Lib.countByte s.data.toList c'.toNat.toUInt8)) ?_ ?_,fun y hy=>by cases hy⟩
   ·rw[enter _ hX];show((Extern.BytealgCount.count #[.string s,.int .u8 c']).run P w).andThen _=_;rw[Lib.run_countString];rfl
   ·rw[cntB_ok hc2];exact .int _ _
  ·cases hx
 ·rename_i a0
  simp only[Option.some.injEq,Prod.mk.injEq] at hx;obtain⟨rfl,rfl,rfl⟩:=hx
  match vs,hL with
  |[a1],hL=>
  refine⟨.pure hr rfl (v':=a1) ?_ (hL.2 0 _ _ rfl rfl),fun y hy=>by cases hy⟩;rw[enter _ hX];show((Extern.AbiNoEscape.same #[a1]).run P w).andThen _=_;rfl
 ·split at hx
  ·rename_i n hcond
   simp only[Option.some.injEq,Prod.mk.injEq] at hx;obtain⟨rfl,rfl,rfl⟩:=hx
   match vs,hL with
   |[a1],hL=>
   have h1:=hL.2 0 _ _ rfl rfl;cases h1;obtain⟨ps,tt,hX1,hX2⟩:=hX;obtain⟨cs,q1,q2,q3⟩:=run_zeros (P:=P) w ps tt gU hX2 n.toNat (by omega)
   have hborn:=hr.drew.drew.born hs (es:=List.replicate n.toNat [.u8]) (arr:=cs) (e:=gU) (sz:=1) (room:=cs.size) (by simpa using q2) (by simp) ⟨by simp;omega,fun j e he=>by
    have hj:=(List.getElem?_eq_some_iff.1 he);obtain⟨hj1,hj2⟩:=hj;simp at hj1 hj2;subst hj2;refine⟨rfl,rfl,by simp;omega,fun j2 c v hc hv=>?_⟩
    cases j2 with
    |succ j2=>simp at hc
    |zero=>
     simp only[List.getElem?_cons_zero,Option.some.injEq] at hc;subst hc;rw[List.getElem?_take,if_pos (by omega),List.getElem?_drop,List.getElem?_take] at hv;split at hv
     ·obtain⟨x,rfl⟩:=q3 v (List.mem_of_getElem? hv);exact .u8 x
     ·cases hv⟩
   refine⟨.born hs ⟨.slice (some ⟨w.heap.size,0,none⟩) n.toNat cs.size,_,_, ?_, ?_, ?_,hborn⟩,fun y hy hne=>?_⟩
   ·rw[enter _ hX1];have hnn:(n.toNat:Int)=n:=by omega
    show((Extern.BytealgMakeNoZero.makeNoZero ps #[tt] #[.int .i64 n]).run P w).andThen _=_;rw[←hnn,q1];rfl
   ·exact(((ext_drew w).trans (ext_drew w.drew) (fun _ h=>h)).trans (ext_alloc w.drew.drew _) (fun _ h=>h)).old hr
   ·have:=VR.ts (w:=w.drew.drew.alloc (.cells cs gU)) (S:=S) (n0+i) 0 n.toNat cs.size ⟨w.heap.size,0,1,(List.replicate n.toNat [AV.u8]).length,cs.size,some (gU,decide (cs.size=1))⟩ gU (decide (cs.size=1)) (setm_same (m:=m)) (by simpa using q2) (by simp) q2 (by simp) rfl;simpa using this
   ·simp only[List.mem_singleton] at hy;subst hy;exact absurd rfl hne
  ·cases hx
 ·cases hx
theorem op_bytes (hT:TabOK P Θ) {t:Fr} {h:Heap} {x:Nat} {o:Oper} {src dst:TypeId} {z:Operand} {a1:ByteArray} {ti ti2 ti3:TI} {e:TypeId} (ho:ops[i]?=some o) (hg:gd ops t o=some true) (hd:inN N o.dst=true) (hop:o.op=.convert src dst z)
  (hz:ev t z=some (.str a1)) (h1:Θ src=some ti) (h2:Θ dst=some ti2) (he:ti2.elem=some e) (h3:Θ e=some ti3) (hk:ti3.kind=.int .u8):
  OpS P N ops n0 i ⟨t,h,x⟩ .P ⟨put t o.dst (.ro (a1.data.toList.map fun b=>[.int .u8 b.toNat])),h,x⟩:=by
 refine⟨o,_,[],ho,hd,rfl,Nat.le_refl _,(fun _=>⟨rfl,rfl,fun y hy=>by cases hy⟩),(fun _=>rfl),(fun _ _ hc=>by cases hc),(fun _ hc=>by cases hc),(fun _ _ hc=>by cases hc),(fun b hb _ hh=>hh),(fun hf _=>hf), ?_⟩;intro ro w S F m a g hr _ hqq hl hs hx hfr hlt Q K hK;refine wpOp_of ho (gd_wanted hg hl) (fun c hc=>by rw[hop] at hc;cases hc) ?_;have hv:=EV.looks hr.glob hl z (by rw[hop];simp[Op.operands]) _ hz;generalize hzv:a.eval z=zv at hv;cases hv;obtain⟨d1,hu1,_,_⟩:=(hT _ ti h1).und;have hu2:=(hT _ ti2 h2).el _ he;obtain⟨d3,hu3,_,hk3⟩:=(hT _ ti3 h3).und;rw[hk] at hk3
 replace hk3:d3=.int .u8:=hk3
 subst hk3;have hrun:=Lib.run_convert_string_bytes (P:=P) w src dst e a1 hu1 hu2 hu3
 have hexec:(execOp a.eval o).run P w=.ok (.value (.slice (some ⟨w.heap.size,0,none⟩) a1.size (grownCap w a1.size 0 e))) (Lib.bytesWorld w e a1):=by
  obtain⟨dst',op,type,pos,after,guard⟩:=o;simp only at hop;subst hop;simp only[execOp,Sem.run_bind,hzv,hrun];rfl
 rw[hexec];have hsize:w.heap.size<(Lib.bytesWorld w e a1).heap.size:=(Array.getElem?_eq_some_iff.1 (Lib.bytesWorld_at_new w e a1)).1
 have hE:Ext (fun k=>k<w.heap.size) w (Lib.bytesWorld w e a1):=by
  refine⟨?_, ?_, ?_,by omega,fun k hk=>Lib.bytesWorld_at_old w e a1 k hk⟩<;>
   (simp only[Lib.bytesWorld,World.freeze];split<;>rfl)
 refine hK _ _ (fun k=>S k∨k=w.heap.size) m (hE.old hr) (fun _ h=> .inl h) (fun k h=>h.imp id fun h=>by omega) (fun _ _ h=>h) (fun _ b hb=>rfl) (fun hc=>by cases hc) (fun _ y hy=>by cases hy) ?_ (fun _=>?_) (fun hc=>by cases hc)
 ·have hge:=grownCap_ge w a1.size 0 e
  have hcell:∀j (hj:j<a1.size),(Lib.bytesWorld w e a1).cell? ⟨w.heap.size,j,none⟩=some (.int .u8 (a1.data[j]'hj).toNat):=by
   intro j hj;have hj':j<a1.data.size:=hj;rw[cell?_cells (Lib.bytesWorld_at_new w e a1)];simp[Lib.bytesCells,Array.getElem?_append];rw[if_pos hj,Array.getElem?_eq_getElem hj'];rfl
  have hlen:(a1.data.toList.map fun b=>[AV.int .u8 (b.toNat:Int)]).length=a1.size:=by simp
  rw[←hlen];refine .ro _ w.heap.size 0 1 _ (fun j _=> .int .u8 ((a1.data.toList.getD j 0).toNat:Int)) (.inr rfl) (fun j l hj=>?_) (by rw[hlen];exact hge) (fun j k c hc=>?_) (fun j k c hc=>?_)
  ·simp only[List.getElem?_map,Option.map_eq_some_iff] at hj;obtain⟨b,_,rfl⟩:=hj;exact⟨rfl,rfl⟩
  ·unfold getc at hc;simp only[List.getElem?_map,Option.bind_eq_some_iff,Option.map_eq_some_iff] at hc;obtain⟨l,⟨b,hb,rfl⟩,hc⟩:=hc
   cases k with
   |succ k=>simp at hc
   |zero=>
    have hj:j<a1.size:=by have:=(List.getElem?_eq_some_iff.1 hb).1;simpa using this
    have:=hcell j hj;have hjd:j<a1.data.size:=hj
    have hget:a1.data.toList.getD j 0=a1.data[j]:=by
     rw[List.getD_eq_getElem?_getD];have:a1.data.toList[j]?=some a1.data[j]:=by simp[hjd]
     rw[this];rfl
    simp only[Nat.zero_add,Nat.mul_one,Nat.add_zero,hget];exact this
  ·unfold getc at hc;simp only[List.getElem?_map,Option.bind_eq_some_iff,Option.map_eq_some_iff] at hc;obtain⟨l,⟨b,hb,rfl⟩,hc⟩:=hc
   cases k with
   |succ k=>simp at hc
   |zero=>
    simp only[List.getElem?_cons_zero,Option.some.injEq] at hc;subst hc;simp only[List.getD_eq_getElem?_getD,hb,Option.getD_some];exact .int _ _
 ·refine⟨fun b o p hb hm=>(hr.content b o p hb hm).mono (hE.mono hr.inS) (fun _ h=> .inl h) (fun _ _ h=>h) (hE.same _ (hr.inm b p hm)),hr.disj,
   fun b o p hb hm=>⟨fun hk=>hk.elim (hr.apart b o p hb hm).1 (fun hk=>by have:=hr.inm b p hm;omega),(hr.apart b o p hb hm).2⟩,
   fun k hk=>hk.elim (fun h=>Nat.lt_of_lt_of_le (hr.inS k h) hE.size) (fun h=>by omega),fun k hk=>Nat.lt_of_lt_of_le (hr.inF k hk) hE.size,fun b p hm=>Nat.lt_of_lt_of_le (hr.inm b p hm) hE.size,
   fun k a ha=>(hr.glob k a ha).mono (hE.mono hr.inS) (fun _ h=> .inl h) (fun _ _ h=>h)⟩
end
end Go.Av
namespace Go.Av
def setPs:Fr→List Nat→List AV→Fr
 |t,p::ps,a::as=>setPs (put t (some p) a) ps as
 |t,_,_=>t
def jumpOf:AEx→Option Code
 | .normal=>none
 | .ret=>some .ret
 | .exit i=>some (.exit i)
 | .goto l=>some (.goto l)
section
variable {P:Program} {Θ:Tab} {N:Nat} {ops:Array Oper} {n0 i:Nat}
theorem setPs_ok {w:World} {S:Nat→Prop} {m:Pm} {M:Nat}:∀(ps:List Nat) (as:List AV) (vs:List Value) (t:Fr) (tmps:Array Value),(∀p∈ps,p<M)→LR w S m as vs→as.length=ps.length→tmps.size=M→(∀x,VR w S m (t x) (tmps.getD x undef))→
  ((ps.zip vs).foldl (fun(tmps:Array Value) (x:Nat×Value)=>tmps.setIfInBounds x.1 x.2) tmps).size=M∧∀x,VR w S m (setPs t ps as x) (((ps.zip vs).foldl (fun(tmps:Array Value) (x:Nat×Value)=>tmps.setIfInBounds x.1 x.2) tmps).getD x undef)
 |[],[],vs,t,tmps,_,_,_,hs,hv=>⟨hs,hv⟩
 |[],_::_,_,_,_,_,_,h,_,_=>by simp at h
 |_::_,[],_,_,_,_,_,h,_,_=>by simp at h
 |p::ps,a::as,[],_,_,_,h,_,_,_=>absurd h.1 (by simp)
 |p::ps,a::as,v::vs,t,tmps,hp,hL,hl,hs,hv=>by
  have hL':LR w S m as vs:=⟨by have:=hL.1;simpa using this,fun j c u hc hu=>hL.2 (j+1) c u (by simpa using hc) (by simpa using hu)⟩;have h1:(tmps.setIfInBounds p v).size=M:=by simpa using hs
  have hpM:=hp p (by simp);refine setPs_ok ps as vs (put t (some p) a) (tmps.setIfInBounds p v) (fun q hq=>hp q (by simp[hq])) hL' (by simpa using hl) h1 fun x=>?_
  by_cases hx:x=p
  ·subst hx
   have:(tmps.setIfInBounds x v).getD x undef=v:=by
    have:x<tmps.size:=by omega
    simp[Array.getD_eq_getD_getElem?,this]
   rw[this];simpa[put] using hL.2 0 a v rfl rfl
  ·have:(tmps.setIfInBounds p v).getD x undef=tmps.getD x undef:=by
    simp only[Array.getD_eq_getD_getElem?];rw[Array.getElem?_setIfInBounds_ne (fun h=>hx h.symm)]
   rw[this];simpa[put,hx] using hv x
theorem ext_put (w:World) (r:Nat) (o:Obj):Ext (fun k=>k≠r) w (w.putObj r o):=
 ⟨rfl,rfl,rfl,by simp,fun k hk=>World.putObj_heap_other hk⟩
theorem Rel.turn {w:World} {S F:Nat→Prop} {m:Pm} {g:Heap} (h:Rel w S F m g) {b M:Nat} {ps:List Nat} {as bd:Code} {t:Fr} {st st':LoopState} {j j':Option Code} (hg:g b=some (.loop M ps as bd t st j)) {p:Pl} (hm:m b=some p) {rec:Loop}
  (hr:w.heap[p.blk]?=some (.loop rec)):Rel (w.putObj p.blk (.loop { rec with state:=st',pending:=j' })) S F m (upd g b (some (.loop M ps as bd t st' j'))):=by
 have hap:=h.apart b _ p hg hm;have hE:=ext_put w p.blk (.loop { rec with state:=st',pending:=j' });refine h.write hg hm hE ?_;obtain⟨rec',h1,h2,h3,h4,h5,h6,h7,h8⟩:=h.content b _ p hg hm;rw[hr] at h1;cases h1;exact⟨{ rec with state:=st',pending:=j' },World.putObj_heap_same (Array.getElem?_eq_some_iff.1 hr).1,rfl,rfl,h4,h5,h6,h7,fun x=>(h8 x).mono (hE.mono fun k hk e=>hap.1 (e▸hk)) (fun _ h=>h) (fun _ _ h=>h)⟩
theorem op_callY {t:Fr} {h:Heap} {x:Nat} {o:Oper} {cl:Call} {f:Operand} {b M M1 M2:Nat} {ps ps1 ps2:List Nat} {assign body as1 bd1 as2 bd2:Code} {t0 t1 t2 tt1 tt2:Fr} {j0 j1 j2:Option Code} {st2:LoopState} {as:List AV} {e:AEx} {h1 h2:Heap} {x1 x2:Nat}
  (ho:ops[i]?=some o) (hg:gd ops t o=some true) (hd:inN N o.dst=true) (hop:o.op=.call cl) (hc:cl.callee=.value f) (hf:ev t f=some (.yl b)) (ha:evs t cl.args.toList=some as)
  (hb:h b=some (.loop M ps assign body t0 .ready j0)) (hlen:as.length=ps.length) (hps:∀p∈ps,p<M) (ha1:CodeS P M assign (setPs t0 ps as) h x .normal t1 h1 x1) (hb1:h1 b=some (.loop M1 ps1 as1 bd1 tt1 .ready j1))
  (hb2:CodeS P M body t1 (upd h1 b (some (.loop M1 ps1 as1 bd1 tt1 .busy j1))) x1 e t2 h2 x2) (hb3:h2 b=some (.loop M2 ps2 as2 bd2 tt2 st2 j2)):
  OpS P N ops n0 i ⟨t,h,x⟩ .W ⟨put t o.dst (.bool (jumpOf e).isNone),upd h2 b (some (.loop M2 ps2 as2 bd2 tt2 (if (jumpOf e).isNone then .ready else .done) (jumpOf e))),x2⟩:=by
 obtain⟨⟨k1,k2,k3⟩,hA,_⟩:=ha1;obtain⟨⟨l1,l2,l3⟩,hB,_⟩:=hb2
 have hne:∀{c:Nat} {g':Heap} {ob:AO},(g' c≠none)→upd g' b (some ob) c≠none:=fun {c g' ob} hh=>by
  by_cases e:c=b
  ·subst e;rw[upd_same];simp
  ·rw[upd_ne e];exact hh
 have hun:∀{c:Nat} {g':Heap} {ob:AO},g' b≠none→g' c=none→upd g' b (some ob) c=none:=fun {c g' ob} hb' hh=>by
  have e:c≠b:=fun e=>by subst e;exact hb' hh
  rw[upd_ne e];exact hh
 have hbb:h b≠none:=by rw[hb];simp
 have hbb1:h1 b≠none:=by rw[hb1];simp
 have hbb2:h2 b≠none:=by rw[hb3];simp
 have free2:(∀c,x≤c→h c=none)→∀c,x1≤c→upd h1 b (some (.loop M1 ps1 as1 bd1 tt1 .busy j1)) c=none:=fun hfr c hc=>hun hbb1 (k3 hfr c hc)
 refine⟨o,_,[],ho,hd,rfl,Nat.le_trans k1 l1,fun hc=>(by cases hc),(fun hc=>by cases hc),(fun _ _ hc=>by cases hc),(fun _ hc=>by cases hc),(fun _ _ hc=>by cases hc),
  fun c _ hc hh=>hun hbb2 (l2 c (Nat.lt_of_lt_of_le hc k1) (hun hbb1 (k2 c hc hh))),fun hfr _ c hc=>hun hbb2 (l3 (free2 hfr) c hc), ?_⟩
 intro ro w S F m a g hr hag _ hl hs hx hfr hlt Q K hK;refine wpOp_of ho (gd_wanted hg hl) (fun c hc=>by rw[hc] at hop;cases hop) ?_;have hev:=EV.looks (ops:=ops) (o:=o) (t:=t) (a:=a) hr.glob hl;have hops:o.op.operands=#[f]++cl.args:=by rw[hop];simp[Op.operands,Call.operands,hc]
 have hL:=evs_ok (w:=w) (S:=S) (m:=m) (a:=a) (fun x hx=>hev x (by rw[hops];simp;exact .inr (by simpa using hx))) ha;have hF:=hev f (by rw[hops];simp) _ hf;have hh:∀b o p,m b=some p→h b=some o→g b=some o:=fun b o p hm hb=>hag b o p (by simp[Cls.needs]) hm hb
 have hru:=hr.under hh;generalize hfv:a.eval f=fv at hF
 cases hF with
 |yl _ p hp=>
 obtain⟨rec,r1,r2,r3,r4,r5,r6,r7,r8⟩:=hru.content b _ p hb hp;have hargs:cl.args.map a.eval=(cl.args.toList.map a.eval).toArray:=by apply Array.ext';simp
 have hy:=run_yield (P:=P) (args:=(cl.args.toList.map a.eval).toArray) r1 (by
  have:=hL.1
  simp only[List.size_toArray,this,hlen,←r6];simp)
 have hexec:(execOp a.eval o).run P w=.ok (.round p.blk rec.fn ((rec.params.zip (cl.args.toList.map a.eval).toArray).foldl (fun tmps (t,a)=>tmps.setIfInBounds t a) rec.tmps) rec.assign rec.body) w:=by
  obtain⟨dst,op,type,pos,after,guard⟩:=o;simp only at hop;subst hop;simp only[execOp,resolve,hc,hfv,Deferred.ofValue,Sem.run_bind,Sem.run_pure,Result.andThen_ok,invoke,hargs];simpa using hy
 rw[hexec,Oper.uponIn_round];refine⟨wd_depth ro 0,roundIn_of_wpIn (wd_fn ro _) ?_⟩;show(rec.assign).wpIn (wd (some p.blk)) 0 P _ _ w;rw[r4]
 have htmps:(rec.params.zip (cl.args.toList.map a.eval).toArray).foldl (fun tmps (t,a)=>tmps.setIfInBounds t a) rec.tmps=(ps.zip (cl.args.toList.map a.eval)).foldl (fun(tmps:Array Value) (x:Nat×Value)=>tmps.setIfInBounds x.1 x.2) rec.tmps:=by
  rw[←Array.foldl_toList,Array.toList_zip,r6]
 rw[htmps];obtain⟨s1,s2⟩:=setPs_ok ps as _ t0 rec.tmps hps hL hlen r7 r8
 have hpre:Pre M (setPs t0 ps as) h x w S (fun k=>F k∨Fr' m g h k) m { tmps:=(ps.zip (cl.args.toList.map a.eval)).foldl (fun(tmps:Array Value) (x:Nat×Value)=>tmps.setIfInBounds x.1 x.2) rec.tmps,defers:=[] }:=
  ⟨hfr,hru,⟨s1,s2⟩,hx rfl⟩
 refine wpIn_mono (hA w S _ m _ hpre (some p.blk)) fun ex a1 w1 hq=>?_
 obtain rfl:=ExR.normal hq.1;obtain⟨_,S1,m1,q1,q2,q3,_⟩:=hq;have hp1:m1 b=some p:=q1.le b p hp;obtain⟨rec1,u1,u2,u3,u4,u5,u6,u7,u8⟩:=q3.content b _ p hb1 hp1;refine⟨_,run_beginRound u1 u2, ?_⟩;show(rec.body).wpIn (wd (some p.blk)) 0 P _ _ _;rw[r5];have hturn:=q3.turn (st':=.busy) (j':=j1) hb1 hp1 u1
 have hrec1:{ rec1 with state:=LoopState.busy }={ rec1 with state:=LoopState.busy,pending:=j1 }:=by
  cases rec1;simp only at u3;subst u3;rfl
 rw[hrec1];have hap1:=q3.apart b _ p hb1 hp1;have hE1:=ext_put w1 p.blk (.loop { rec1 with state:=.busy,pending:=j1 })
 have hpre2:Pre M t1 (upd h1 b (some (.loop M1 ps1 as1 bd1 tt1 .busy j1))) x1 (w1.putObj p.blk (.loop { rec1 with state:=.busy,pending:=j1 })) S1 (fun k=>F k∨Fr' m g h k) m1 a1:=
  ⟨free2 hfr,hturn,q2.mono (hE1.mono fun k hk e=>hap1.1 (e▸hk)) (fun _ h=>h) (fun _ _ h=>h),q1.free⟩
 refine wpIn_mono (hB _ S1 _ m1 a1 hpre2 (some p.blk)) fun ex a2 w3 hq2=>?_
 obtain⟨v0,S2,m2,v1,v2,v3,_⟩:=hq2;have hp2:m2 b=some p:=v1.le b p hp1;obtain⟨rec2,z1,z2,z3,z4,z5,z6,z7,z8⟩:=v3.content b _ p hb3 hp2;have hap2:=v3.apart b _ p hb3 hp2
 have fin:∀jump:Option Code,jump=jumpOf e→∃v w',(Instr.endRound p.blk jump).run P w3=.ok v w'∧K (a.put o.dst v) w':=by
  rintro jump rfl
  have hend:=run_endRound (P:=P) (jumpOf e) z1;have hE3:=ext_put w3 p.blk (.loop { rec2 with state:=if (jumpOf e).isNone then .ready else .done,pending:=jumpOf e });have hturn2:=v3.turn (st':=if (jumpOf e).isNone then .ready else .done) (j':=jumpOf e) hb3 hp2 z1;refine⟨_,_,hend, ?_⟩
  have hSF:∀k,(S k∨(F k∨Fr' m g h k))→k≠p.blk:=fun k hk e=>by
   subst e;rcases hk with hk|hk
   ·exact hap1.1 (q1.grow _ hk)
   ·exact hap1.2 hk
  have hS1F:∀k,(S1 k∨(F k∨Fr' m g h k))→k≠p.blk:=fun k hk e=>by subst e;exact hk.elim hap1.1 hap1.2
  have hext:Ext (fun k=>S k∨(F k∨Fr' m g h k)) w (w3.putObj p.blk (.loop { rec2 with state:=if (jumpOf e).isNone then .ready else .done,pending:=jumpOf e })):=by
   refine((q1.ext.trans (hE1.mono hSF) fun _ h=>h).trans v1.ext fun k hk=>hk.imp (q1.grow k) id).trans (hE3.mono hSF) fun _ h=>h
  refine hK _ _ S2 m2 (hext.mono fun k hk=>hk.imp id .inl) (fun k hk=>v1.grow k (q1.grow k hk)) (fun k hk=>?_) (fun b p hb=>v1.le b p (q1.le b p hb)) (fun hc=>by cases hc) (fun _=>⟨fun c hc _=>?_,v1.free⟩) (fun hc=>by cases hc) (.bool _) (fun hc=>by cases hc)
   (fun _=>hr.over hturn2 hext (fun k hk=>v1.grow k (q1.grow k hk)) (fun k hk=>?_) (fun b p hb=>v1.le b p (q1.le b p hb)))
  ·rcases v1.new k hk with hk|hk
   ·exact q1.new k hk
   ·exact .inr (Nat.le_trans q1.ext.size (by simpa using hk))
  ·rw[v1.old c (Nat.lt_of_lt_of_le hc k1),q1.old c hc]
  ·rcases v1.new k hk with hk|hk
   ·exact q1.new k hk
   ·exact .inr (Nat.le_trans q1.ext.size (by simpa using hk))
 cases e with
 |normal=>
  obtain rfl:=ExR.normal v0;obtain⟨v,w',e1,e2⟩:=fin none rfl;exact⟨v,w',e1,e2⟩
 |ret=>
  cases ex<;>simp[ExR] at v0
  obtain⟨v,w',e1,e2⟩:=fin (some .ret) rfl;exact⟨v,w',e1,e2⟩
 |exit id=>
  cases ex<;>simp[ExR] at v0
  subst v0;obtain⟨v,w',e1,e2⟩:=fin (some (.exit id)) rfl;exact⟨v,w',e1,e2⟩
 |goto l=>
  cases ex<;>simp[ExR] at v0
  subst v0;obtain⟨v,w',e1,e2⟩:=fin (some (.goto l)) rfl;exact⟨v,w',e1,e2⟩
end
end Go.Av
