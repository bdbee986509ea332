/-
  An evaluator on abstract values, and that what it says is so in the model. Conditions: none.
-/
import Derived.Test.YtjpkjbobcicfoaaGreatDoorAF
set_option linter.unusedSimpArgs false
set_option linter.unusedVariables false
namespace Go.Av
inductive Tr (α:Type) where
 |nil
 |node (l:Tr α) (v:Option α) (r:Tr α)
noncomputable def Tr.get {α:Type} (t:Tr α):Nat→Option α:=
 Tr.rec (motive:=fun _=>Nat→Option α) (fun _=>none) (fun _ v _ gl gr k=>bif Nat.beq k 0 then v else bif Nat.beq (k % 2) 1 then gl (k / 2) else gr (k / 2 - 1)) t
def Tr.lt {α:Type}:Tr α→Tr α
 | .nil=> .nil
 | .node l _ _=>l
def Tr.rt {α:Type}:Tr α→Tr α
 | .nil=> .nil
 | .node _ _ r=>r
def Tr.vl {α:Type}:Tr α→Option α
 | .nil=>none
 | .node _ v _=>v
def Tr.set {α:Type}:Nat→Tr α→Nat→Option α→Option (Tr α)
 |0,_,_,_=>none
 |d+1,t,k,x=>bif Nat.beq k 0 then some (.node t.lt x t.rt) else bif Nat.beq (k % 2) 1 then (match Tr.set d t.lt (k / 2) x with
   |some l=>some (.node l t.vl t.rt)
   |none=>none) else (match Tr.set d t.rt (k / 2 - 1) x with
   |some r=>some (.node t.lt t.vl r)
   |none=>none)
def Tr.ofFn {α:Type}:Nat→(Nat→α)→Tr α
 |0,_=> .nil
 |d+1,f=> .node (Tr.ofFn d fun k=>f (2*k+1)) (some (f 0)) (Tr.ofFn d fun k=>f (2*k+2))
theorem nbf {a b:Nat}:Nat.beq a b=false↔a≠b:=by
 rw[Bool.eq_false_iff,ne_eq,Nat.beq_eq]
theorem Tr.get_nil {α:Type} (k:Nat):(Tr.nil:Tr α).get k=none:=rfl
theorem Tr.get_node {α:Type} (l:Tr α) (v:Option α) (r:Tr α) (k:Nat):(Tr.node l v r).get k=bif Nat.beq k 0 then v else bif Nat.beq (k % 2) 1 then l.get (k / 2) else r.get (k / 2 - 1):=rfl
theorem Tr.get_eq {α:Type} (t:Tr α) (k:Nat):t.get k=bif Nat.beq k 0 then t.vl else bif Nat.beq (k % 2) 1 then t.lt.get (k / 2) else t.rt.get (k / 2 - 1):=by
 cases t with
 |nil=>simp[Tr.get_nil,Tr.vl,Tr.lt,Tr.rt]
 |node l v r=>rfl
theorem Tr.get_set {α:Type}:∀(d:Nat) (t:Tr α) (k:Nat) (x:Option α) (t':Tr α),Tr.set d t k x=some t'→∀j,t'.get j=if j=k then x else t.get j
 |0,_,_,_,_,h,_=>by cases h
 |d+1,t,k,x,t',h,j=>by
  unfold Tr.set at h
  cases hk:Nat.beq k 0 with
  |true=>
   rw[hk] at h;simp only[cond_true,Option.some.injEq] at h;subst h;have hk0:k=0:=by simpa using hk
   subst hk0;rw[Tr.get_node,Tr.get_eq t];by_cases hj:j=0
   ·subst hj;simp
   ·have:Nat.beq j 0=false:=nbf.2 hj;simp[this,hj]
  |false=>
   have hk0:k≠0:=nbf.1 hk;rw[hk] at h;simp only[cond_false] at h
   cases hp:Nat.beq (k % 2) 1 with
   |true=>
    have hp1:k % 2=1:=by simpa using hp
    rw[hp] at h;simp only[cond_true] at h;split at h
    ·rename_i l hl
     simp only[Option.some.injEq] at h;subst h;have ih:=Tr.get_set d t.lt (k / 2) x l hl;rw[Tr.get_node,Tr.get_eq t]
     cases hj:Nat.beq j 0 with
     |true=>
      have:j≠k:=by have:j=0:=by simpa using hj
                   omega
      simp[this]
     |false=>
      have hj0:j≠0:=nbf.1 hj;simp only[cond_false]
      cases hq:Nat.beq (j % 2) 1 with
      |true=>
       have hq1:j % 2=1:=by simpa using hq
       simp only[cond_true];rw[ih];by_cases e:j=k
       ·subst e;simp
       ·have:j / 2≠k / 2:=by omega
        simp[e,this]
      |false=>
       have hq1:j % 2≠1:=nbf.1 hq;have:j≠k:=by omega
       simp[this]
    ·cases h
   |false=>
    have hp1:k % 2≠1:=nbf.1 hp;rw[hp] at h;simp only[cond_false] at h;split at h
    ·rename_i r hr
     simp only[Option.some.injEq] at h;subst h;have ih:=Tr.get_set d t.rt (k / 2 - 1) x r hr;rw[Tr.get_node,Tr.get_eq t]
     cases hj:Nat.beq j 0 with
     |true=>
      have:j≠k:=by have:j=0:=by simpa using hj
                   omega
      simp[this]
     |false=>
      have hj0:j≠0:=nbf.1 hj;simp only[cond_false]
      cases hq:Nat.beq (j % 2) 1 with
      |true=>
       have hq1:j % 2=1:=by simpa using hq
       have:j≠k:=by omega
       simp[this]
      |false=>
       have hq1:j % 2≠1:=nbf.1 hq;simp only[cond_false];rw[ih];by_cases e:j=k
       ·subst e;simp
       ·have:j / 2 - 1≠k / 2 - 1:=by omega
        simp[e,this]
    ·cases h
theorem Tr.get_ofFn {α:Type}:∀(d:Nat) (f:Nat→α) (k:Nat),(Tr.ofFn d f).get k=some (f k)∨(Tr.ofFn d f).get k=none
 |0,_,_=> .inr rfl
 |d+1,f,k=>by
  unfold Tr.ofFn;rw[Tr.get_node]
  cases hk:Nat.beq k 0 with
  |true=>
   have hk0:k=0:=by simpa using hk
   subst hk0;exact .inl rfl
  |false=>
   have hk0:k≠0:=nbf.1 hk;simp only[cond_false]
   cases hp:Nat.beq (k % 2) 1 with
   |true=>
    have hp1:k % 2=1:=by simpa using hp
    have ih:=Tr.get_ofFn d (fun k=>f (2*k+1)) (k / 2);have e:2*(k / 2)+1=k:=by omega
    simp only[cond_true];rw[e] at ih;exact ih
   |false=>
    have hp1:k % 2≠1:=nbf.1 hp;have ih:=Tr.get_ofFn d (fun k=>f (2*k+2)) (k / 2 - 1);have e:2*(k / 2 - 1)+2=k:=by omega
    simp only[cond_false];rw[e] at ih;exact ih
structure EvS where
 t:Tr AV
 h:Tr AO
 x:Nat
noncomputable def frT (T:Tr AV):Fr:=fun k=>match T.get k with
 |some v=>v
 |none=> .any
noncomputable def hpT (H:Tr AO):Heap:=fun b=>H.get b
def putT (T:Tr AV) (d:Option Nat) (v:AV):Option (Tr AV):=
 match d with
 |some d=>Tr.set 32 T d (some v)
 |none=>some T
def updT (H:Tr AO):Upd→Option (Tr AO)
 |[]=>some H
 |(b,o)::u=>match Tr.set 64 H b o with
  |some H'=>updT H' u
  |none=>none
theorem putT_ok {T T':Tr AV} {d:Option Nat} {v:AV} (h:putT T d v=some T'):frT T'=put (frT T) d v:=by
 cases d with
 |none=>simp only[putT,Option.some.injEq] at h;subst h;rfl
 |some d=>
  funext x;have:=Tr.get_set 32 T d (some v) T' h x;unfold frT put;rw[this];by_cases hx:x=d
  ·simp[hx]
  ·simp[hx]
theorem set_ok {H H':Tr AO} {b:Nat} {o:Option AO} (h:Tr.set 64 H b o=some H'):hpT H'=upd (hpT H) b o:=by
 funext x;exact Tr.get_set 64 H b o H' h x
theorem updT_ok:∀{u:Upd} {H H':Tr AO},updT H u=some H'→hpT H'=upds (hpT H) u
 |[],H,H',h=>by simp only[updT,Option.some.injEq] at h;subst h;rfl
 |(b,o)::u,H,H',h=>by
  unfold updT at h;split at h
  ·rename_i H1 h1
   rw[updT_ok h,set_ok h1];rfl
  ·cases h
structure Sur where
 Θ:Tab
 fn:Nat→Option Func
 xk:Nat→Option XK
 qt:Nat→Bool
 kn:Nat→List (List AV×AV)
def PFS (P:Program) (f:FuncId) (args:List AV) (res:AV):Prop:=
 ∃r h1 x1 d,FnS P f args h0 0 r h1 x1∧rf false d h1 r=some res
structure Sur.OK (P:Program) (E:Sur):Prop where
 tab:TabOK P E.Θ
 fn:∀f fn,E.fn f=some fn→P.funcs[f]?=some fn∧fn.name≠ "runtime.NumGoroutine"
 xk:∀f k,E.xk f=some k→XOK P f k
 qt:∀f,E.qt f=true→∀fn:Func,P.funcs[f]?=some fn→fn.body.isSome=true∧∀vs:List Value,vs.length=fn.nfree→Quiet P f ⟨vs⟩
 kn:∀f as r,(as,r)∈E.kn f→PFS P f as r
 mixed:P.follows .mixedOrders=true
structure Ops where
 call:FuncId→List AV→Tr AO→Nat→Option (AV×Tr AO×Nat)
 code:Nat→Code→EvS→Option (AEx×EvS)
structure Ops.OK (P:Program) (O:Ops):Prop where
 call:∀f as H x r H' x',O.call f as H x=some (r,H',x')→FnS P f as (hpT H) x r (hpT H') x'
 code:∀N c σ e σ',O.code N c σ=some (e,σ')→CodeS P N c (frT σ.t) (hpT σ.h) σ.x e (frT σ'.t) (hpT σ'.h) σ'.x
def findK (as:List AV):List (List AV×AV)→Option AV
 |[]=>none
 |(a,r)::l=>if AV.beqs as a then some r else findK as l
theorem findK_ok {as:List AV}:∀{l:List (List AV×AV)} {r:AV},findK as l=some r→(as,r)∈l
 |[],_,h=>by cases h
 |(a,r0)::l,r,h=>by
  unfold findK at h;split at h
  ·rename_i hb
   simp only[Option.some.injEq] at h;subst h;rw[AV.beqs_eq _ _ hb];simp
  ·simp[findK_ok h]
structure Mk where
 c:Cls
 f:Cls
 h:Tr AO
 h':Tr AO
noncomputable def fineOf (E:Sur) (op:Op) (t:Fr) (h:Heap) (s:Nat) (c:Cls) (v:AV) (u:Upd):Cls:=
 match op with
 | .load ty z=>match E.Θ ty,ev t z with
   |some ti,some (.ptr b j off)=>match rdQ (.seg j off ti.size) (h b),u with
    |some cs,[]=>match ofCells ti.agg cs with
     |some v'=>if AV.beq v v' then .R b (.seg j off ti.size) else c
     |none=>c
    |_,_=>c
   |_,_=>c
 | .lookup ty z y ok=>match E.Θ ty,ev t z,ev t y with
   |some ti,some (.mp b),some k=>match ti.kind,u with
    | .map keq vz,[]=>match rdQ (.key keq k (if ok then none else some vz)) (h b) with
      |some cs=>match lkV ok vz cs with
       |some v'=>if keyOK keq k && AV.beq v v' then .R b (.key keq k (if ok then none else some vz)) else c
       |none=>c
      |none=>c
    |_,_=>c
   |_,_,_=>c
 | .box _ z=>match ev t z,v,u with
   |some a1,.ptr b 0 0,[(b',some (.cells [e]))]=>match cellsOf a1 with
    |some cs=>if Nat.beq b s && Nat.beq b' s && AV.beqs e cs && cs.all scal then .N s else c
    |none=>c
   |_,_,_=>c
 | .alloc ty=>match E.Θ ty,v,u with
   |some ti,.ptr b 0 0,[(b',some (.cells [e]))]=>if Nat.beq b s && Nat.beq b' s && AV.beqs e ti.zero && ti.zero.all scal then .N s else c
   |_,_,_=>c
 |_=>c
def fin (o:Oper) (σ:EvS) (c f:Cls) (v:AV) (u:Upd):Option (Mk×EvS):=
 match putT σ.t o.dst v,updT σ.h u with
 |some T,some H=>some (⟨c,f,σ.h,H⟩,⟨T,H,σ.x⟩)
 |_,_=>none
def finW (o:Oper) (σ:EvS) (r:AV) (H:Tr AO) (x:Nat):Option (Mk×EvS):=
 match putT σ.t o.dst r with
 |some T=>some (⟨.W,.W,σ.h,H⟩,⟨T,H,x⟩)
 |none=>none
def setPT:Tr AV→List Nat→List AV→Option (Tr AV)
 |T,p::ps,a::as=>match putT T (some p) a with
  |some T'=>setPT T' ps as
  |none=>none
 |T,_,_=>some T
noncomputable def doRound (O:Ops) (o:Oper) (σ:EvS) (b:Nat) (as:List AV):Option (Mk×EvS):=
 match σ.h.get b with
 |some (.loop M ps assign body t0 .ready _)=>if as.length=ps.length∧ps.all (·<M) then
   match setPT (Tr.ofFn 9 t0) ps as with
   |some T0=>match O.code M assign ⟨T0,σ.h,σ.x⟩ with
    |some (.normal,s1)=>match s1.h.get b with
     |some (.loop M1 ps1 as1 bd1 tt1 .ready j1)=>match Tr.set 64 s1.h b (some (.loop M1 ps1 as1 bd1 tt1 .busy j1)) with
      |some H1=>match O.code M body ⟨s1.t,H1,s1.x⟩ with
       |some (e,s2)=>match s2.h.get b with
        |some (.loop M2 ps2 as2 bd2 tt2 _ _)=>match Tr.set 64 s2.h b (some (.loop M2 ps2 as2 bd2 tt2 (if (jumpOf e).isNone then .ready else .done) (jumpOf e))) with
         |some H2=>finW o σ (.bool (jumpOf e).isNone) H2 s2.x
         |none=>none
        |_=>none
       |none=>none
      |none=>none
     |_=>none
    |_=>none
   |none=>none
  else none
 |_=>none
noncomputable def doCall (E:Sur) (O:Ops) (n0 i:Nat) (o:Oper) (σ:EvS) (f:Option AV) (as:Option (List AV)):Option (Mk×EvS):=
 match f,as with
 |some (.fn k caps),some as=>match E.xk k with
  |some xk=>match caps,xExt xk as (n0+i) with
   |[],some (c,v,u)=>fin o σ c c v u
   |_,_=>none
  |none=>match (match E.kn k with|[]=>none|l=>match rfs true 64 (hpT σ.h) (as++caps) with|some as'=>findK as' l|none=>none) with
   |some r=>fin o σ .Q .Q r []
   |none=>match O.call k (as++caps) σ.h σ.x with
    |some (r,H,x)=>finW o σ r H x
    |none=>none
 |some (.bm k first),some as=>match O.call k (first++as) σ.h σ.x with
  |some (r,H,x)=>finW o σ r H x
  |none=>none
 |some (.yl b),some as=>doRound O o σ b as
 |_,_=>none
noncomputable def doPlain (E:Sur) (n0 i:Nat) (o:Oper) (σ:EvS):Option (Mk×EvS):=
 match aop E.Θ o.op (frT σ.t) (hpT σ.h) n0 (n0+i) with
 |some (c,v,u)=>fin o σ c (fineOf E o.op (frT σ.t) (hpT σ.h) (n0+i) c v u) v u
 |none=>match o.op with
  | .convert src dst z=>match ev (frT σ.t) z,E.Θ src,E.Θ dst with
    |some (.str a1),some _,some ti2=>match ti2.elem with
     |some e=>match E.Θ e with
      |some ti3=>match ti3.kind with
       | .int .u8=>fin o σ .P .P (.ro (a1.data.toList.map fun b=>[.int .u8 b.toNat])) []
       |_=>none
      |none=>none
     |none=>none
    |_,_,_=>none
  |_=>none
noncomputable def doOp (E:Sur) (O:Ops) (N:Nat) (ops:Array Oper) (n0 i:Nat) (o:Oper) (σ:EvS):Option (Mk×EvS):=
 if inN N o.dst then match gd ops (frT σ.t) o with
  |some false=>fin o σ .P .P (.tup []) []
  |some true=>match o.op with
   | .call cl=>match cl.callee with
     | .value f=>doCall E O n0 i o σ (ev (frT σ.t) f) (evs (frT σ.t) cl.args.toList)
     |_=>doPlain E n0 i o σ
   |_=>doPlain E n0 i o σ
  |none=>none
 else none
noncomputable def doOps (E:Sur) (O:Ops) (N:Nat) (ops:Array Oper) (n0:Nat):List Oper→Nat→EvS→Option (List Mk×EvS)
 |[],_,σ=>some ([],σ)
 |o::l,i,σ=>match doOp E O N ops n0 i o σ with
  |some (k,σ1)=>match doOps E O N ops n0 l (i+1) σ1 with
   |some (ks,σ2)=>some (k::ks,σ2)
   |none=>none
  |none=>none
def sameQ:Option (List AV)→Option (List AV)→Bool
 |none,none=>true
 |some a,some b=>AV.beqs a b
 |_,_=>false
def sameO:Option AO→Option AO→Bool
 |none,none=>true
 |some (.cells a),some (.cells b)=>AV.beqss a b
 |_,_=>false
def qsOf:List Mk→List (Nat×Query)
 |[]=>[]
 |k::l=>match k.f with
  | .R b q=>(b,q)::qsOf l
  |_=>qsOf l
def nsOf:List Mk→List Nat
 |[]=>[]
 |k::l=>match k.f with
  | .N s=>s::nsOf l
  |_=>nsOf l
noncomputable def kOf (qs:List (Nat×Query)) (ns:List Nat) (k:Mk):Cls:=
 match k.f with
 | .W=> .K (qs.filter fun x=>sameQ (rdQ x.2 (k.h'.get x.1)) (rdQ x.2 (k.h.get x.1))) (ns.filter fun b=>sameO (k.h'.get b) (k.h.get b))
 |c=>c
noncomputable def doRegion (E:Sur) (O:Ops) (N:Nat) (ops:Array Oper) (draw:Bool) (σ:EvS):Option EvS:=
 match doOps E O N ops σ.x ops.toList 0 ⟨σ.t,σ.h,σ.x+ops.toList.length⟩ with
 |some (ks,σ')=>if draw then
   (if drawOK ops (ks.map (·.c)) then some σ' else if drawOK ops (ks.map (kOf (qsOf ks) (nsOf ks))) then some σ' else none)
  else some σ'
 |none=>none
noncomputable def evJ (E:Sur) (O:Ops) (N:Nat):Nat→Option Code→Code→EvS→Option (AEx×EvS)
 |0,_,_,_=>none
 |k+1,some body,c,σ=>match evJ E O N k none c σ with
  |some (.goto l,s)=>match findLabel body l with
   |some rest=>evJ E O N k (some body) rest s
   |none=>none
  |r=>r
 |k+1,none,c,σ=>match c with
  | .skip=>some (.normal,σ)
  | .label _=>some (.normal,σ)
  | .exit i=>some (.exit i,σ)
  | .goto l=>some (.goto l,σ)
  | .ret=>some (.ret,σ)
  | .region _ ops draw=>match doRegion E O N ops draw σ with
    |some s=>some (.normal,s)
    |none=>none
  | .seq a b=>match evJ E O N k none a σ with
    |some (.normal,s)=>evJ E O N k none b s
    |r=>r
  | .cond c a b=>match ev (frT σ.t) c with
    |some (.bool true)=>evJ E O N k none a σ
    |some (.bool false)=>evJ E O N k none b σ
    |_=>none
  | .block i c=>match evJ E O N k none c σ with
    |some (.exit j,s)=>if Nat.beq j i then some (.normal,s) else some (.exit j,s)
    |r=>r
  | .loop c=>match evJ E O N k none c σ with
    |some (.normal,s)=>evJ E O N k none (.loop c) s
    |r=>r
  | .scope c=>evJ E O N k (some c) c σ
  |_=>none
def hasD:Code→Bool
 | .rangeFunc _ _ _ _=>true
 | .region _ ops _=>ops.toList.any fun o=>match o.op with
   | .defer _=>true
   |_=>false
 | .seq a b=>hasD a||hasD b
 | .block _ c=>hasD c
 |_=>false
noncomputable def evD (E:Sur) (O:Ops) (N fuel:Nat):Nat→Code→EvS→Option (AEx×EvS)
 |0,_,_=>none
 |k+1,c,σ=>match c with
  | .seq a b=>if hasD a then match evD E O N fuel k a σ with
     |some (.normal,s)=>evJ E O N fuel none b s
     |r=>r
    else match evJ E O N fuel none a σ with
     |some (.normal,s)=>evD E O N fuel k b s
     |_=>none
  | .block i c=>match evD E O N fuel k c σ with
    |some (.exit j,s)=>if Nat.beq j i then some (.normal,s) else some (.exit j,s)
    |r=>r
  | .rangeFunc g ps assign body=>match ev (frT σ.t) g with
    |some (.fn k caps)=>match Tr.set 64 σ.h σ.x (some (.loop N ps.toList assign body (frT σ.t) .ready none)) with
     |some H=>match O.call k (.yl σ.x::caps) H (σ.x+1) with
      |some (_,H2,x2)=>match H2.get σ.x with
       |some (.loop _ _ _ _ _ st j)=>match st,exOf j,Tr.set 64 H2 σ.x none with
        | .busy,_,_=>none
        |_,some e,some H3=>some (e,⟨σ.t,H3,x2⟩)
        |_,_,_=>none
       |_=>none
      |none=>none
     |none=>none
    |_=>none
  | .region _ ops false=>match ops.toList with
    |[o0,o1]=>match doOp E O N ops σ.x 0 o0 ⟨σ.t,σ.h,σ.x+2⟩,o1.op,o1.guard,o1.dst with
     |some (_,s),.defer cl,none,none=>match cl.callee,cl.args.toList with
      | .value f,[]=>match ev (frT s.t) f with
        |some (.fn k caps)=>if E.qt k then match E.fn k with
          |some fn=>if Nat.beq caps.length fn.nfree then some (.normal,s) else none
          |none=>none
         else none
        |_=>none
      |_,_=>none
     |_,_,_,_=>none
    |_=>none
  |_=>none
noncomputable def evF (E:Sur) (O:Ops) (fuel:Nat) (f:FuncId) (args:List AV) (H:Tr AO) (x:Nat):Option (AV×Tr AO×Nat):=
 match E.fn f with
 |some fn=>match fn.body with
  |some c=>if args.length≤fn.ntmps then
    match (if hasD c then evD E O fn.ntmps fuel 1000 c ⟨Tr.ofFn 9 (fr0 args),H,x⟩ else evJ E O fn.ntmps fuel none c ⟨Tr.ofFn 9 (fr0 args),H,x⟩) with
    |some (e,s)=>match e with
     | .normal| .ret=>match ares E.Θ fn.results (frT s.t) (hpT s.h) with
       |some r=>some (r,s.h,s.x)
       |none=>none
     |_=>none
    |none=>none
   else none
  |none=>none
 |none=>none
noncomputable def lvl (E:Sur) (fuel:Nat):Nat→Ops
 |0=>⟨fun _ _ _ _=>none,fun _ _ _=>none⟩
 |d+1=>⟨evF E (lvl E fuel d) fuel,fun N c σ=>evJ E (lvl E fuel d) N fuel none c σ⟩
end Go.Av
