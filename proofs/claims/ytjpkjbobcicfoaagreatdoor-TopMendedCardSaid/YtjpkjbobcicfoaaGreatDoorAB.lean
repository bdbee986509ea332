/-
  Texts A12, A13, A14, A15, A16, A17, A18, A19, A20, A21, A22 of this work, one behind the other. Conditions: none.
-/
import Derived.Laws.Tables
import Derived.ScopeJumps
import Derived.LoopN
import Derived.Laws.StructEq
import Derived.DeepKeys
import Derived.OrdersIn
import Derived.LoopNIn
import Derived.Test.YtjpkjbobcicfoaaGreatDoorAA
set_option linter.unusedSimpArgs false
set_option linter.unusedVariables false
namespace Go.Av
section
variable {P:Program} {w:World} {S F:Nat→Prop} {m:Pm} {g:Heap} {Θ:Tab}
theorem cv1_ok {v:Value} {a:AV} (h:cv1 v=some a):VR w S m a v:=by
 unfold cv1 at h;split at h<;>simp only[Option.some.injEq,reduceCtorEq] at h<;>subst h
 ·exact .bool _
 ·exact .int _ _
 ·exact .str _
 ·exact .nilp
 ·exact .nils
 ·exact .nilm
 ·exact .nilf
 ·exact .nili
theorem cvs_ok:∀{vs:List Value} {as:List AV},cvs vs=some as→LR w S m as vs
 |[],as,h=>by simp[cvs] at h;subst h;exact LR.nil
 |v::vs,as,h=>by
  simp only[cvs] at h;split at h
  ·rename_i a as' h1 h2
   simp only[Option.some.injEq] at h;subst h;exact LR.cons (cv1_ok h1) (cvs_ok h2)
  ·cases h
theorem cv_ok {v:Value} {a:AV} (h:cv v=some a):VR w S m a v:=by
 unfold cv at h;split at h
 ·rename_i vs
  simp only[Option.map_eq_some_iff] at h;obtain⟨as,h1,rfl⟩:=h;have:=cvs_ok (w:=w) (S:=S) (m:=m) h1;exact .agg as vs.toList this.1 this.2
 ·exact cv1_ok h
def EV (w:World) (S:Nat→Prop) (m:Pm) (t:Fr) (a:Act) (x:Operand):Prop:=∀c,ev t x=some c→VR w S m c (a.eval x)
def GL (w:World) (S:Nat→Prop):Prop:=∀k a,gl gT k=some a→VR w S (fun _=>none) a (.pointer (some ⟨k,0,none⟩))
theorem EV.of {t:Fr} {a:Act} {x:Operand} (hG:GL w S) (h:∀i,x=.tmp i→VR w S m (t i) (a.tmps.getD i undef)):EV w S m t a x:=by
 intro c hc
 cases x with
 |tmp i=>simp[ev] at hc;subst hc;exact h i rfl
 |const v=>exact cv_ok hc
 |func f=>simp[ev] at hc;subst hc;exact .fn f [] [] rfl (fun i c v h=>by simp at h)
 |global k=>exact(hG k c (by simpa[ev] using hc)).up
theorem evs_ok {t:Fr} {a:Act}:∀{os:List Operand} {as:List AV},(∀x∈os,EV w S m t a x)→evs t os=some as→LR w S m as (os.map a.eval)
 |[],as,_,h=>by simp[evs] at h;subst h;exact LR.nil
 |o::os,as,hx,h=>by
  simp only[evs] at h;split at h
  ·rename_i a1 as' h1 h2
   simp only[Option.some.injEq] at h;subst h;exact LR.cons (hx o (by simp) _ h1) (evs_ok (fun x hm=>hx x (by simp[hm])) h2)
  ·cases h
theorem evp_ok {t:Fr} {a:Act}:∀{os:List (Nat×Operand)} {as:List (Nat×AV)},(∀x∈os,EV w S m t a x.2)→evp t os=some as→PR w S m as (os.map fun p=>(p.1,a.eval p.2))
 |[],as,_,h=>by simp[evp] at h;subst h;exact trivial
 |(i,o)::os,as,hx,h=>by
  simp only[evp] at h;split at h
  ·rename_i a1 as' h1 h2
   simp only[Option.some.injEq] at h;subst h;exact⟨rfl,hx (i,o) (by simp) _ h1,evp_ok (fun x hm=>hx x (by simp[hm])) h2⟩
  ·cases h
def Post (P:Program) (o:Oper) (a:Act) (w:World) (S F:Nat→Prop) (m:Pm) (g:Heap) (s:Nat) (v:AV) (u:Upd):Prop:=
 ∃v' w' m',((execOp a.eval o).run P w=.ok (.value v') w'∨((execOp a.eval o).run P w=.ok .skip w'∧v'=undef))∧
  Ext (fun k=>S k∨F k) w w'∧(∀b p,m b=some p→m' b=some p)∧(∀b,b≠s→m' b=m b)∧VR w' S m' v v'∧Rel w' S F m' (upds g u)
theorem Post.pure {o:Oper} {a:Act} {s:Nat} {v:AV} {u:Upd} {v':Value} (hr:Rel w S F m g) (hu:u=[]) (h:(execOp a.eval o).run P w=.ok (.value v') w) (hv:VR w S m v v'):Post P o a w S F m g s v u:=
 ⟨v',w,m,.inl h,Ext.refl _ _,fun _ _ h=>h,fun _ _=>rfl,hv,by subst hu;exact hr⟩
theorem Post.born {o:Oper} {a:Act} {s:Nat} {v:AV} {u:Upd} (hs:m s=none)
  (h:∃v' w' p,(execOp a.eval o).run P w=.ok (.value v') w'∧Ext (fun k=>S k∨F k) w w'∧VR w' S (setm m s p) v v'∧Rel w' S F (setm m s p) (upds g u)):Post P o a w S F m g s v u:=by
 obtain⟨v',w',p,h1,h2,h3,h4⟩:=h;exact⟨v',w',setm m s p,.inl h1,h2,setm_le hs,fun b hb=>setm_ne hb,h3,h4⟩
theorem P1_inv {v':Option AV} {c:Cls} {v:AV} {u:Upd} (h:P1 v'=some (c,v,u)):v'=some v∧c=.P∧u=[]:=by
 unfold P1 at h;simp only[Option.map_eq_some_iff,Prod.mk.injEq] at h;obtain⟨a,h1,h2,h3,h4⟩:=h;exact⟨by rw[h1,h3],h2.symm,h4.symm⟩
theorem VR.sl_inv {b off len sz:Nat} {x:Value} (h:VR w S m (.sl b off len sz) x):∃p,m b=some p:=by
 generalize hav:AV.sl b off len sz=av at h;cases h<;>simp only[reduceCtorEq,AV.sl.injEq] at hav
 obtain⟨rfl,_⟩:=hav;exact⟨_,‹_›⟩
theorem append_ok {t tx ty:TypeId} {ti ti2:TI} (hT:TyOK P t ti) (hT2:TyOK P tx ti2) {hc:Heap} {n0 s:Nat} {x y v:AV} {c:Cls} {u:Upd} {xv yv:Value} (hk2:srcT ti2 y=true)
  (h:aAppend ti hc n0 s x y=some (c,v,u)) (hx:VR w S m x xv) (hy:VR w S m y yv) (hg:∀b o p,c≠.P→(c=.L→b<n0)→m b=some p→hc b=some o→g b=some o) (hs:m s=none) (hr:Rel w S F m g):
  ∃v' w' m',(Builtin.append_ #[t,tx] ty #[xv,yv]).run P w=.ok v' w'∧Ext (fun k=>S k∨F k) w w'∧(∀b q,m b=some q→m' b=some q)∧(∀b,b≠s→m' b=m b)∧
   VR w' S m' v v'∧Rel w' S F m' (upds g u)∧∀e,P.underlying t=some (.slice e)→(x=.nils∨∃b len sz p o,x=.sl b 0 len sz∧m b=some p∧p.ty=some (e,o))→
    ∀b off len sz,v=.sl b off len sz→∃p o,m' b=some p∧p.ty=some (e,o):=by
 obtain⟨e2,hund2,hunds⟩:∃e2,((∀s,y≠.str s)→P.underlying tx=some (.slice e2))∧∀s,y=.str s→P.underlying tx=some .string:=by
  obtain⟨d2,hund2,_,hkind2⟩:=hT2.und;unfold srcT at hk2;split at hk2
  ·rename_i hk
   rw[hk] at hkind2
   replace hkind2:d2=.string:=hkind2
   subst hkind2;exact⟨0,fun h=>absurd rfl (h _),fun s _=>hund2⟩
  ·cases hk2
  ·rename_i hk hx
   rw[hk] at hkind2;obtain⟨e2,_,_,hd2,_⟩:=hkind2;subst hd2;exact⟨e2,fun _=>hund2,fun s hs=>(hx s hs).elim⟩
  ·cases hk2
 obtain⟨d,hund,_,hkind⟩:=hT.und;unfold aAppend at h;split at h
 ·rename_i esz eb ez hk
  rw[hk] at hkind;obtain⟨e,i,z,hd,hi,hisz,hib,hz,hzc⟩:=hkind;subst hd;split at h
  ·rename_i hcond
   obtain⟨hsz0,hb0,hzl⟩:=hcond;split at h
   ·rename_i new hnew
    split at h
    · -- onto nothing
      generalize hxn:AV.nils=xn at hx;cases hx<;>simp only[reduceCtorEq] at hxn
      clear hxn;obtain⟨ad,had⟩:∃ad:Option Addr,ad=none:=⟨_,rfl⟩
      have hcls:c=rdCls n0 y:=by
       split at h
       ·simp only[Option.some.injEq,Prod.mk.injEq] at h;exact h.1.symm
       ·split at h
        ·simp only[Option.some.injEq,Prod.mk.injEq] at h;exact h.1.symm
        ·cases h
      have hP:c≠.P:=by rw[hcls];unfold rdCls;split<;>simp
      obtain⟨news,hE,hsrc⟩:=elems_ok (P:=P) (tx:=tx) hund2 hunds hsz0 hnew hy (fun b o p hb hh hm=>hr.content b o p (hg b o p hP (fun hL=>by
       cases y<;>simp only at hb
       subst hb;exact rdCls_L (hcls.symm.trans hL) rfl) hm hh) hm)
      split at h
      ·rename_i hemp
       have hn0:new=[]:=by simpa using hemp
       subst hn0;simp only[Option.some.injEq,Prod.mk.injEq] at h;obtain⟨_,hv,hu⟩:=h;subst hv hu
       have hnn:news=[]:=by
        have:=hE.len;simpa using this
       subst hnn hisz;exact⟨_,w,m,by rw[←had];exact append_zero_ok hund hi hsrc ad,Ext.refl _ _,fun _ _ h=>h,fun _ _=>rfl,by rw[had];exact .nils,hr,fun _ _ _ _ _ _ _ hv=>by cases hv⟩
      ·rename_i hemp
       split at h
       ·rename_i hbound
        simp only[Option.some.injEq,Prod.mk.injEq] at h;obtain⟨_,hv,hu⟩:=h;subst hv hu;rw[←had];obtain⟨v',w',m',q1,q2,q3,q4,q5,q6,p,o,q7,q8⟩:=append_nil_ok (ty:=ty) hund hi hisz hz hzc hzl hE hsrc (by rw[hib];exact hbound) (by rw[hib];exact hb0) (by simpa using hemp) ad hs hr;exact⟨v',w',m',q1,q2,q3,q4,q5,q6,fun e' he _ b off len sz hv=>by cases hv;rw[hund] at he;cases he;exact⟨p,o,q7,q8⟩⟩
       ·cases h
    · -- onto nothing
      generalize hxn:AV.emp=xn at hx;cases hx<;>simp only[reduceCtorEq] at hxn
      rename_i ad
      have hcls:c=rdCls n0 y:=by
       split at h
       ·simp only[Option.some.injEq,Prod.mk.injEq] at h;exact h.1.symm
       ·split at h
        ·simp only[Option.some.injEq,Prod.mk.injEq] at h;exact h.1.symm
        ·cases h
      have hP:c≠.P:=by rw[hcls];unfold rdCls;split<;>simp
      obtain⟨news,hE,hsrc⟩:=elems_ok (P:=P) (tx:=tx) hund2 hunds hsz0 hnew hy (fun b o p hb hh hm=>hr.content b o p (hg b o p hP (fun hL=>by
       cases y<;>simp only at hb
       subst hb;exact rdCls_L (hcls.symm.trans hL) rfl) hm hh) hm)
      split at h
      ·rename_i hemp
       have hn0:new=[]:=by simpa using hemp
       subst hn0;simp only[Option.some.injEq,Prod.mk.injEq] at h;obtain⟨_,hv,hu⟩:=h;subst hv hu
       have hnn:news=[]:=by
        have:=hE.len;simpa using this
       subst hnn hisz;exact⟨_,w,m,append_zero_ok hund hi hsrc ad,Ext.refl _ _,fun _ _ h=>h,fun _ _=>rfl,.emp ad,hr,fun _ _ _ _ _ _ _ hv=>by cases hv⟩
      ·rename_i hemp
       split at h
       ·rename_i hbound
        simp only[Option.some.injEq,Prod.mk.injEq] at h;obtain⟨_,hv,hu⟩:=h;subst hv hu;obtain⟨v',w',m',q1,q2,q3,q4,q5,q6,p,o,q7,q8⟩:=append_nil_ok (ty:=ty) hund hi hisz hz hzc hzl hE hsrc (by rw[hib];exact hbound) (by rw[hib];exact hb0) (by simpa using hemp) ad hs hr;exact⟨v',w',m',q1,q2,q3,q4,q5,q6,fun e' he _ b off len sz hv=>by cases hv;rw[hund] at he;cases he;exact⟨p,o,q7,q8⟩⟩
       ·cases h
    · -- onto nothing
      generalize hxn:AV.emn=xn at hx;cases hx<;>simp only[reduceCtorEq] at hxn
      rename_i ad0
      clear hxn;obtain⟨ad,had⟩:∃ad:Option Addr,ad=some ad0:=⟨_,rfl⟩
      have hcls:c=rdCls n0 y:=by
       split at h
       ·simp only[Option.some.injEq,Prod.mk.injEq] at h;exact h.1.symm
       ·split at h
        ·simp only[Option.some.injEq,Prod.mk.injEq] at h;exact h.1.symm
        ·cases h
      have hP:c≠.P:=by rw[hcls];unfold rdCls;split<;>simp
      obtain⟨news,hE,hsrc⟩:=elems_ok (P:=P) (tx:=tx) hund2 hunds hsz0 hnew hy (fun b o p hb hh hm=>hr.content b o p (hg b o p hP (fun hL=>by
       cases y<;>simp only at hb
       subst hb;exact rdCls_L (hcls.symm.trans hL) rfl) hm hh) hm)
      split at h
      ·rename_i hemp
       have hn0:new=[]:=by simpa using hemp
       subst hn0;simp only[Option.some.injEq,Prod.mk.injEq] at h;obtain⟨_,hv,hu⟩:=h;subst hv hu
       have hnn:news=[]:=by
        have:=hE.len;simpa using this
       subst hnn hisz;exact⟨_,w,m,by rw[←had];exact append_zero_ok hund hi hsrc ad,Ext.refl _ _,fun _ _ h=>h,fun _ _=>rfl,by rw[had];exact .emn _,hr,fun _ _ _ _ _ _ _ hv=>by cases hv⟩
      ·rename_i hemp
       split at h
       ·rename_i hbound
        simp only[Option.some.injEq,Prod.mk.injEq] at h;obtain⟨_,hv,hu⟩:=h;subst hv hu;rw[←had];obtain⟨v',w',m',q1,q2,q3,q4,q5,q6,p,o,q7,q8⟩:=append_nil_ok (ty:=ty) hund hi hisz hz hzc hzl hE hsrc (by rw[hib];exact hbound) (by rw[hib];exact hb0) (by simpa using hemp) ad hs hr;exact⟨v',w',m',q1,q2,q3,q4,q5,q6,fun e' he _ b off len sz hv=>by cases hv;rw[hund] at he;cases he;exact⟨p,o,q7,q8⟩⟩
       ·cases h
    ·rename_i b off len sz
     split at h
     ·rename_i es hb
      split at h
      ·rename_i hcond2
       obtain⟨rfl,hle,hbound⟩:=hcond2;obtain⟨p,hm⟩:=hx.sl_inv
       have hcls:c=.W∨c=.F:=by
        split at h
        ·simp only[Option.some.injEq,Prod.mk.injEq] at h;exact .inl h.1.symm
        ·split at h
         ·simp only[Option.some.injEq,Prod.mk.injEq] at h;rw[←h.1];split<;>simp
         ·cases h
       have hP:c≠.P:=by rcases hcls with h|h<;>rw[h]<;>simp
       have hL:c=.L→False:=by rcases hcls with h|h<;>rw[h]<;>simp
       have hgb:=hg b _ p hP (fun h=>(hL h).elim) hm hb;obtain⟨news,hE,hsrc⟩:=elems_ok (P:=P) (tx:=tx) hund2 hunds hsz0 hnew hy (fun b o p _ hh hm=>hr.content b o p (hg b o p hP (fun h=>(hL h).elim) hm hh) hm);obtain⟨hA,hB⟩:=append_sl_ok (ty:=ty) hund hi hisz hz hzc hzl hE hsrc hx hgb hle (by rw[hib];exact hbound) (by rw[hib];exact hb0) hs hr;split at h
       ·rename_i hin
        simp only[Option.some.injEq,Prod.mk.injEq] at h;obtain⟨_,hv,hu⟩:=h;subst hv hu;obtain⟨v',w',h1,h2,h3,h4⟩:=hA hin.1
        exact⟨v',w',m,h1,h2,fun _ _ h=>h,fun _ _=>rfl,h3,h4,fun e' he hx b' off' len' sz' hv=>by
         cases hv;rcases hx with hx|⟨b2,l2,s2,p2,o2,hx,q1,q2⟩
         ·cases hx
         ·cases hx;exact⟨p2,o2,q1,q2⟩⟩
       ·split at h
        ·rename_i hend
         simp only[Option.some.injEq,Prod.mk.injEq] at h;obtain⟨_,hv,hu⟩:=h;subst hv hu;obtain⟨v',w',m',q1,q2,q3,q4,q5,q6,q7⟩:=hB hend
         exact⟨v',w',m',q1,q2,q3,q4,q5,q6,fun e' he hx b' off' len' sz' hv=>by
          cases hv;rw[hund] at he;cases he;rcases hx with hx|⟨b2,l2,s2,p2,o2,hx,r1,r2⟩
          ·cases hx
          ·cases hx;exact q7 ⟨rfl,p2,o2,r1,r2⟩⟩
        ·cases h
      ·cases h
     ·cases h
    ·cases h
   ·cases h
  ·cases h
 ·cases h
theorem aStore_W {ti:TI} {hc:Heap} {a x v:AV} {c:Cls} {u:Upd} (h:aStore ti hc a x=some (c,v,u)):c=.W:=by
 unfold aStore at h;split at h
 ·split at h
  ·split at h
   ·split at h
    ·simp only[Option.some.injEq,Prod.mk.injEq] at h;exact h.1.symm
    ·cases h
   ·cases h
  ·cases h
 ·cases h
theorem aLoad_P {ti:TI} {hc:Heap} {n0:Nat} {a v:AV} {c:Cls} {u:Upd} (h:aLoad ti hc n0 a=some (c,v,u)):c≠.P:=by
 unfold aLoad at h;split at h
 ·split at h
  ·simp only[Option.some.injEq,Prod.mk.injEq] at h;rw[←h.1];unfold rdCls;split<;>simp
  ·cases h
 ·cases h
theorem fields_places {fs:List (Nat×Nat×Bool)} {fields:List Field} (hl:fs.length=fields.length)
  (h:∀(j o s:Nat) (g:Bool),fs[j]?=some (o,s,g)→∃(f:Field) (i:TypeInfo),fields[j]?=some f∧f.offset=o∧P.info? f.type=some i∧i.size=s):
  fields.mapM (fun f=>(P.info? f.type).map fun i=>(f.offset,i.size))=some (fs.map fun f=>(f.1,f.2.1)):=by
 induction fields generalizing fs with
 |nil=>cases fs with
  |nil=>rfl
  |cons _ _=>simp at hl
 |cons fd rest ih=>cases fs with
  |nil=>simp at hl
  |cons p ps=>
   obtain⟨o,s,gg⟩:=p;obtain⟨f,i,h1,h2,h3,h4⟩:=h 0 o s gg rfl;simp at h1;subst h1
   have:=ih (fs:=ps) (by simpa using hl) (fun j o s g hj=>by
    obtain⟨f,i,k1,k2⟩:=h (j+1) o s g (by simpa using hj)
    exact⟨f,i,by simpa using k1,k2⟩)
   simp[List.mapM_cons,h3,this,h2,h4]
def MR (w:World) (S:Nat→Prop) (m:Pm):List (AV×AV)→List MapEntry→Prop
 |[],[]=>True
 |(k,x)::es,e::en=>(VR w S m k e.key∧VR w S m x e.val)∧MR w S m es en
 |_,_=>False
theorem MR.of:∀{es:List (AV×AV)} {en:List MapEntry},en.length=es.length→(∀(i:Nat) (k x:AV) (e:MapEntry),es[i]?=some (k,x)→en[i]?=some e→VR w S m k e.key∧VR w S m x e.val)→MR w S m es en
 |[],[],_,_=>trivial
 |[],_::_,h,_=>by simp at h
 |_::_,[],h,_=>by simp at h
 |(k,x)::es,e::en,h,hh=>⟨hh 0 k x e rfl rfl,MR.of (by simpa using h) fun i k x e h1 h2=>hh (i+1) k x e (by simpa using h1) (by simpa using h2)⟩
theorem find_ok {keq:List EK} {kt:TypeId} {a:AV} {kv:Value} (heq:∀(y:Value) (b:AV) (r:Bool),VR w S m b y→cellEq keq a b=some r→(Op.equal kt kv y).run P w=.ok r w):
  ∀(es:List (AV×AV)) (en:List MapEntry) (i:Nat) (r:Option AV),MR w S m es en→find keq a es=some r→
   (r=none∧(Instr.findAsking kt kv en i).run P w=.ok none w)∨∃x j v,r=some x∧(Instr.findAsking kt kv en i).run P w=.ok (some (j,v)) w∧VR w S m x v
 |[],[],i,r,_,h=>by
  simp only[find,Option.some.injEq] at h;subst h;exact .inl ⟨rfl,by simp[Instr.findAsking]⟩
 |[],_::_,_,_,h,_=>h.elim
 |_::_,[],_,_,h,_=>h.elim
 |(k,x)::es,e::en,i,r,h,hf=>by
  obtain⟨⟨h1,h2⟩,h3⟩:=h;rw[find] at hf
  cases hc:cellEq keq a k with
  |none=>rw[hc] at hf;cases hf
  |some b=>
   have he:=heq _ _ b h1 hc;rw[hc] at hf
   cases b with
   |true=>
    simp only[Option.some.injEq] at hf;subst hf;exact .inr ⟨x,i,e.val,rfl,by simp[Instr.findAsking,Sem.run_bind,he],h2⟩
   |false=>
    have ih:=find_ok heq es en (i+1) r h3 hf;have e2:(Instr.findAsking kt kv (e::en) i).run P w=(Instr.findAsking kt kv en (i+1)).run P w:=by simp[Instr.findAsking,Sem.run_bind,he]
    rw[e2];exact ih
theorem same_equal {kt:TypeId} {d:TypeDesc} (hk:P.underlying kt=some d) {x y:Value} {r:Bool} (h:Instr.sameNow d x y=some r):(Op.equal kt x y).run P w=.ok r w:=by
 suffices key:∀n,(Op.equalIn (n+1) kt x y).run P w=.ok r w from key 9999
 intro n;unfold Instr.sameNow at h;split at h
 ·split at h
  ·rename_i hkk
   simp only[Option.some.injEq] at h;subst h;simp only[Op.equalIn,Sem.run_bind,run_underlying hk,Result.andThen_ok,hkk,if_true,Sem.run_pure]
  ·cases h
 ·simp only[Option.some.injEq] at h;subst h;simp only[Op.equalIn,Sem.run_bind,run_underlying hk,Result.andThen_ok,Sem.run_pure]
 ·simp only[Option.some.injEq] at h;subst h;simp only[Op.equalIn,Sem.run_bind,run_underlying hk,Result.andThen_ok,Sem.run_pure]
 ·cases h
theorem find_now {kt:TypeId} {d:TypeDesc} (hk:P.underlying kt=some d) (kv:Value):∀(en:List MapEntry) (i:Nat) (r:Option (Nat×Value)),Instr.findNow d kv en i=some r→(Instr.findAsking kt kv en i).run P w=.ok r w
 |[],i,r,h=>by simp only[Instr.findNow,Option.some.injEq] at h;subst h;simp[Instr.findAsking]
 |e::en,i,r,h=>by
  unfold Instr.findNow at h;split at h
  ·rename_i hs
   simp only[Option.some.injEq] at h;subst h;simp[Instr.findAsking,Sem.run_bind,same_equal hk hs]
  ·rename_i hs
   have ih:=find_now hk kv en (i+1) r h;simp only[Instr.findAsking,Sem.run_bind,same_equal hk hs,Result.andThen_ok,Bool.false_eq_true,if_false];exact ih
  ·cases h
theorem find_key {kt:TypeId} {d:TypeDesc} (hk:P.underlying kt=some d) (kv:Value) (en:List MapEntry):(Instr.findKey kt kv en).run P w=(Instr.findAsking kt kv en).run P w:=by
 unfold Instr.findKey;simp only[Sem.run_bind,run_underlying hk,Result.andThen_ok];split
 ·rename_i r h
  rw[find_now hk kv en 0 r h];rfl
 ·rfl
theorem lookup_ok {t:TypeId} {ti:TI} (hT:TyOK P t ti) {hc:Heap} {n0:Nat} {x k v:AV} {ok:Bool} {c:Cls} {u:Upd} {xv kv:Value} (h:aLookup ti hc n0 x k ok=some (c,v,u)) (hx:VR w S m x xv) (hk:VR w S m k kv)
  (hcont:∀b o p,(c=.L→b<n0)→hc b=some o→m b=some p→CR w S m p o):u=[]∧∃v',(Instr.lookup t xv kv ok).run P w=.ok v' w∧VR w S m v v':=by
 unfold aLookup at h;split at h
 ·rename_i keq vz hkind
  obtain⟨d,hund,_,hK⟩:=hT.und;rw[hkind] at hK;obtain⟨kt,et,i,z,rfl,hi,hz,hvz,hck,heq,fs,hfs⟩:=hK;have hzero:(zeroValue et).run P w=.ok z w:=by simp[zeroValue,typeInfo,hi,hz]
  have main:∀(es:List (AV×AV)) (en:Array MapEntry),MR w S m es en.toList→(if keyOK keq k=true then match find keq k es with
    |some (some v)=>some (rdCls n0 x,if ok=true then AV.tup [v,.bool true] else v,([]:Upd))
    |some none=>some (rdCls n0 x,if ok=true then .tup [vz,.bool false] else vz,[])
    |none=>none
    else none)=some (c,v,u)→
    c=rdCls n0 x∧u=[]∧(∀b,(Instr.checkKey b 10000 kt kv).run P w=.ok () w)∧∃o:Option (Nat×Value),(Instr.findAsking kt kv en.toList).run P w=.ok o w∧
     VR w S m v (if ok=true then .tuple #[match o with|some (_,v)=>v|none=>z,.bool o.isSome] else match o with|some (_,v)=>v|none=>z):=by
   intro es en hM h;split at h
   ·rename_i hkey
    have hchk:=fun b=>hck kv w S m k hk hkey b
    cases hf:find keq k es with
    |none=>rw[hf] at h;cases h
    |some r=>
     rcases find_ok (P:=P) (fun y b r hb hc=>heq kv y w S m k b r hk hb hc) es en.toList 0 r hM hf with ⟨rfl,hfa⟩|⟨xx,j,vv,rfl,hfa,hvv⟩
     ·rw[hf] at h;simp only[Option.some.injEq,Prod.mk.injEq] at h;obtain⟨rfl,rfl,rfl⟩:=h;refine⟨rfl,rfl,hchk,none,hfa, ?_⟩;cases ok
      ·simpa using hvz w S m
      ·simp only[if_true]
       exact .tup _ _ rfl fun i c v h1 h2=>by
        match i with
        |0=>simp at h1 h2;subst h1 h2;exact hvz w S m
        |1=>simp at h1 h2;subst h1 h2;exact .bool false
        |n+2=>simp at h1
     ·rw[hf] at h;simp only[Option.some.injEq,Prod.mk.injEq] at h;obtain⟨rfl,rfl,rfl⟩:=h;refine⟨rfl,rfl,hchk,some (j,vv),hfa, ?_⟩;cases ok
      ·simpa using hvv
      ·simp only[if_true]
       exact .tup _ _ rfl fun i c v h1 h2=>by
        match i with
        |0=>simp at h1 h2;subst h1 h2;exact hvv
        |1=>simp at h1 h2;subst h1 h2;exact .bool true
        |n+2=>simp at h1
   ·cases h
  cases x<;>simp only[reduceCtorEq] at h
  case nilm=>
   cases hx;obtain⟨_,hu,hchk,o,h1,h2⟩:=main [] #[] trivial h;refine⟨hu,_, ?_,h2⟩;have h1':(Instr.findAsking kt kv []).run P w=.ok o w:=h1;unfold Instr.lookup;simp only[Sem.run_bind,run_underlying hund,Result.andThen_ok,Sem.run_pure,hchk,find_key hfs,h1'];rcases o with _|⟨a,b⟩<;>cases ok<;>simp[hzero]
  case mp b=>
   cases hh:hc b with
   |none=>rw[hh] at h;simp at h
   |some o=>
    cases o with
    |cells es=>rw[hh] at h;simp at h
    |loop=>rw[hh] at h;simp at h
    |map es=>
     rw[hh] at h;simp only at h;generalize hbb:AV.mp b=bb at hx;cases hx<;>simp only[reduceCtorEq,AV.mp.injEq] at hbb
     case mp b' p hp=>
     subst hbb
     have hcl:c=.L→b<n0:=fun hL=>by
      have hcr:c=rdCls n0 (.mp b):=by
       split at h
       ·split at h<;>simp at h<;>exact h.1.symm
       ·cases h
      exact rdCls_L (a:=.mp b) (hcr▸hL) rfl
     obtain⟨en,clock,e1,e2,e3,_⟩:=hcont b _ p hcl hh hp;obtain⟨_,hu,hchk,o,h1,h2⟩:=main es en (MR.of (by simpa using e2) fun i k x e h1 h2=>e3 i k x e h1 (by simpa using h2)) h;refine⟨hu,_, ?_,h2⟩;have hget:(getObj p.blk).run P w=.ok (.map en clock) w:=by simp[getObj,Sem.run,e1]
     unfold Instr.lookup;simp only[Sem.run_bind,run_underlying hund,Result.andThen_ok,Sem.run_pure,hget,hchk,find_key hfs,h1];rcases o with _|⟨a,b⟩<;>cases ok<;>simp[hzero]
 ·cases h
theorem mapUpdate_ok {t:TypeId} {ti:TI} (hT:TyOK P t ti) {hc:Heap} {x k y v:AV} {c:Cls} {u:Upd} {xv kv yv:Value} (h:aMapUpdate ti hc x k y=some (c,v,u)) (hx:VR w S m x xv) (hk:VR w S m k kv) (hy:VR w S m y yv)
  (hg:∀b o p,m b=some p→hc b=some o→g b=some o) (hr:Rel w S F m g):v=.tup []∧∃w',(Instr.mapUpdate t xv kv yv).run P w=.ok () w'∧Ext (fun k=>S k∨F k) w w'∧Rel w' S F m (upds g u):=by
 unfold aMapUpdate at h;split at h
 ·rename_i keq vz b hkind
  obtain⟨d,hund,_,hK⟩:=hT.und;rw[hkind] at hK;obtain⟨kt,et,i,z,rfl,hi,hz,hvz,hck,heq,fs,hfs⟩:=hK;split at h
  ·rename_i es hh
   split at h
   ·rename_i hkey
    split at h
    ·rename_i hf
     simp only[Option.some.injEq,Prod.mk.injEq] at h;obtain⟨_,rfl,rfl⟩:=h
     cases hx with
     |mp _ p hp=>
     have hgb:=hg b _ p hp hh;obtain⟨en,clock,e1,e2,e3,e4,e5⟩:=hr.content b _ p hgb hp;have hap:=hr.apart b _ p hgb hp;have hM:=MR.of (w:=w) (S:=S) (m:=m) (es:=es) (en:=en.toList) (by simpa using e2) fun i k x e h1 h2=>e3 i k x e h1 (by simpa using h2)
     obtain⟨_,hfa⟩|⟨_,_,_,hcc,_⟩:=find_ok (P:=P) (fun y b r hb hc=>heq kv y w S m k b r hk hb hc) es en.toList 0 none hM hf
     ·have hlt:p.blk<w.heap.size:=(Array.getElem?_eq_some_iff.1 e1).1
      have hE:Ext (fun k=>k≠p.blk) w { w with heap:=w.heap.setIfInBounds p.blk (.map (en.push { key:=kv,val:=yv,born:=clock }) (clock+1)) }:=
       ⟨rfl,rfl,rfl,by simp,fun k hk=>by simp[Ne.symm hk]⟩
      have hES:Ext S w { w with heap:=w.heap.setIfInBounds p.blk (.map (en.push { key:=kv,val:=yv,born:=clock }) (clock+1)) }:=hE.mono fun k hk e=>hap.1 (e▸hk)
      refine⟨rfl,_, ?_,hE.mono fun k hk e=>?_,hr.write hgb hp hE ?_⟩
      ·have hget:(getObj p.blk).run P w=.ok (.map en clock) w:=by simp[getObj,Sem.run,e1]
       have hset:∀o,(setObj p.blk o).run P w=.ok () { w with heap:=w.heap.setIfInBounds p.blk o }:=fun o=>by simp[setObj,Sem.run,e1]
       unfold Instr.mapUpdate;simp only[Sem.run_bind,run_underlying hund,Result.andThen_ok,Sem.run_pure,hget,hck kv w S m k hk hkey false,find_key hfs,hfa,hset]
      ·subst e;exact hk.elim hap.1 hap.2
      ·refine⟨en.push { key:=kv,val:=yv,born:=clock },clock+1,by simp[hlt],by simp[e2],fun i k' x' e h1 h2=>?_,by simp[e4],fun i e he=>?_⟩
       rotate_left
       ·rw[Array.getElem?_push] at he;split at he
        ·rename_i hi;simp only[Option.some.injEq] at he;subst he;rw[hi];exact e4
        ·exact e5 i e he
       by_cases hi:i<es.length
       ·rw[List.getElem?_append_left hi] at h1
        have h2':en[i]?=some e:=by
         rw[Array.getElem?_push] at h2;split at h2
         ·omega
         ·exact h2
        obtain⟨a,b⟩:=e3 i k' x' e h1 h2';exact⟨a.mono hES (fun _ h=>h) fun _ _ h=>h,b.mono hES (fun _ h=>h) fun _ _ h=>h⟩
       ·have hie:i=es.length:=by
         have:=(List.getElem?_eq_some_iff.1 h1).1;simp at this;omega
        subst hie;rw[List.getElem?_append_right (Nat.le_refl _)] at h1;simp only[Nat.sub_self,List.getElem?_cons_zero,Option.some.injEq,Prod.mk.injEq] at h1;obtain⟨rfl,rfl⟩:=h1;rw[Array.getElem?_push,if_pos e2.symm] at h2;simp only[Option.some.injEq] at h2;subst h2;exact⟨hk.mono hES (fun _ h=>h) fun _ _ h=>h,hy.mono hES (fun _ h=>h) fun _ _ h=>h⟩
     ·cases hcc
    ·cases h
   ·cases h
  ·cases h
 ·cases h
theorem aMapUpdate_W {ti:TI} {hc:Heap} {x k y v:AV} {c:Cls} {u:Upd} (h:aMapUpdate ti hc x k y=some (c,v,u)):c=.W:=by
 unfold aMapUpdate at h
 repeat' split at h
 all_goals first|(simp only[Option.some.injEq,Prod.mk.injEq] at h;exact h.1.symm)|cases h
theorem aLookup_P {ti:TI} {hc:Heap} {n0:Nat} {x k v:AV} {ok:Bool} {c:Cls} {u:Upd} (h:aLookup ti hc n0 x k ok=some (c,v,u)):c≠.P∧u=[]:=by
 have hc:∀n0 a,rdCls n0 a≠.P:=fun n0 a=>by unfold rdCls;split<;>simp
 unfold aLookup at h;split at h
 ·dsimp only at h
  split at h
  ·split at h
   ·split at h
    ·simp only[Option.some.injEq,Prod.mk.injEq] at h;exact⟨h.1▸hc _ _,h.2.2.symm⟩
    ·simp only[Option.some.injEq,Prod.mk.injEq] at h;exact⟨h.1▸hc _ _,h.2.2.symm⟩
    ·cases h
   ·cases h
  ·cases h
 ·cases h
theorem makeMap_ok {t:TypeId} {s:Nat} (hs:m s=none) (hr:Rel w S F m g):
  ∃v' w' p,(Instr.makeMap t none).run P w=.ok v' w'∧Ext (fun k=>S k∨F k) w w'∧VR w' S (setm m s p) (.mp s) v'∧Rel w' S F (setm m s p) (upds g [(s,some (.map []))]):=by
 have hE:=ext_alloc w (.map #[] 0);refine⟨.map (some w.heap.size),w.alloc (.map #[] 0),⟨w.heap.size,0,0,0,0,none⟩,rfl,hE.old hr,.mp s _ setm_same, ?_⟩;refine hr.birth hs hE (Nat.le_refl _) ?_ ⟨#[],0,alloc_new w _,rfl,(fun i k x e h=>by simp at h),rfl,fun i e h=>by simp at h⟩;show w.heap.size<(w.heap.push _).size;simp
theorem aop0_sound (hT:TabOK P Θ) {o:Oper} {t:Fr} {a:Act} {hc:Heap} {n0 s:Nat} {c:Cls} {v:AV} {u:Upd} (h:aop0 Θ o.op t hc n0 s=some (c,v,u))
  (hev:∀x∈o.op.operands,EV w S m t a x) (hg:∀b o p,c≠.P→(c=.L→b<n0)→m b=some p→hc b=some o→g b=some o) (hs:m s=none) (hr:Rel w S F m g):Post P o a w S F m g s v u:=by
 have hcont:c≠.P→∀b o p,(c=.L→b<n0)→hc b=some o→m b=some p→CR w S m p o:=fun hP b o p hb hh hm=>hr.content b o p (hg b o p hP hb hm hh) hm
 obtain⟨dst,op,type,pos,after,guard⟩:=o;cases op<;>simp only[aop0,reduceCtorEq] at h
 case move x=>
  obtain⟨h1,_,hu⟩:=P1_inv h;exact .pure hr hu rfl (hev x (by simp[Op.operands]) _ h1)
 case assign x=>
  obtain⟨h1,_,hu⟩:=P1_inv h;exact .pure hr hu rfl (hev x (by simp[Op.operands]) _ h1)
 case pick x y z=>
  split at h
  ·rename_i b a1 a2 h1 h2 h3
   obtain⟨h4,_,hu⟩:=P1_inv h;simp only[Option.some.injEq] at h4;have hb:=hev x (by simp[Op.operands]) _ h1;generalize hxv:a.eval x=xv at hb;cases hb;refine .pure (v':=if b then a.eval y else a.eval z) hr hu (by simp[execOp,hxv,asBool]) ?_;cases b
   ·simp at h4 ⊢;subst h4;exact hev z (by simp[Op.operands]) _ h3
   ·simp at h4 ⊢;subst h4;exact hev y (by simp[Op.operands]) _ h2
  ·cases h
 case alloc ty=>
  split at h
  ·rename_i ti hti
   obtain⟨v',w',p,h1,h2⟩:=alloc_ok (hT ty ti hti) h hs hr;exact .born hs ⟨v',w',p,by simp[execOp,h1],h2⟩
  ·cases h
 case box ty x=>
  split at h
  ·rename_i a1 h1
   obtain⟨v',w',p,h2,h3⟩:=box_ok (P:=P) (t:=ty) h (hev x (by simp[Op.operands]) _ h1) hs hr;exact .born hs ⟨v',w',p,by simp[execOp,h2],h3⟩
  ·cases h
 case build ty ps=>
  split at h
  ·rename_i ti as hti h1
   have hp:=evp_ok (w:=w) (S:=S) (m:=m) (a:=a) (fun x hx=>hev x.2 (by simp only[Op.operands,List.mem_toArray,List.mem_map];exact⟨x,hx,rfl⟩)) h1;obtain⟨d,hund,hrow,hkind⟩:=(hT ty ti hti).und;obtain⟨i,z,hi,hiz,hz,hzc⟩:=(hT ty ti hti).info;have hpl:(ps.map fun x=>(x.1,a.eval x.2)).toList=ps.toList.map fun p=>(p.1,a.eval p.2):=by simp
   unfold aBuild at h;split at h
   ·rename_i fs hk
    rw[hk] at hkind;obtain⟨fields,hd,hlen,hall⟩:=hkind;subst hd;split at h
    ·rename_i cs hf
     simp only[Option.some.injEq,Prod.mk.injEq] at h;obtain⟨_,hv,hu⟩:=h;subst hv
     have hpls:=fields_places (P:=P) (fs:=fs) (fields:=fields.toList) (by simpa using hlen) (fun j o s g hj=>by
      obtain⟨f,i,d',k1,k2,k3,k4,_⟩:=hall j o s g hj
      exact⟨f,i,by simpa using k1,k2,k3,k4⟩)
     obtain⟨vs',k1,k2⟩:=fill_ok (place':=fun i=>(fs.map fun f=>(f.1,f.2.1)).toArray[i]?) (fun i o s hh=>by simpa using hh) as _ ti.zero cs z.cells.toList hp (hzc w S m) hf;refine .pure hr hu.symm (v':=.agg ⟨vs'⟩) ?_ (.agg _ _ k2.1 k2.2)
     have hb:P.built ty (ps.map fun x=>(x.1,a.eval x.2)).toList=some ⟨vs'⟩:=by
      rw[hpl];simp only[Program.built,hi,hund,hz,hpls];exact k1
     simp only[execOp,Sem.run_bind];rw[run_build w ty _ _ hb];rfl
    ·cases h
   ·rename_i n esz gg hk
    rw[hk] at hkind;obtain⟨e,ei,d',hd,hei,heis,_⟩:=hkind;subst hd;split at h
    ·rename_i cs hf
     simp only[Option.some.injEq,Prod.mk.injEq] at h;obtain⟨_,hv,hu⟩:=h;subst hv;obtain⟨vs',k1,k2⟩:=fill_ok (place':=fun i=>some (i*esz,esz)) (fun i o s hh=>hh) as _ ti.zero cs z.cells.toList hp (hzc w S m) hf;refine .pure hr hu.symm (v':=.agg ⟨vs'⟩) ?_ (.agg _ _ k2.1 k2.2)
     have hb:P.built ty (ps.map fun x=>(x.1,a.eval x.2)).toList=some ⟨vs'⟩:=by
      rw[hpl];simp only[Program.built,hi,hund,hz,hei,heis];exact k1
     simp only[execOp,Sem.run_bind];rw[run_build w ty _ _ hb];rfl
    ·cases h
   ·cases h
  ·cases h
 case buildSlice ty len ps=>
  split at h
  ·rename_i ti as hti h1
   have hp:=evp_ok (w:=w) (S:=S) (m:=m) (a:=a) (fun x hx=>hev x.2 (by simp only[Op.operands,List.mem_toArray,List.mem_map];exact⟨x,hx,rfl⟩)) h1;obtain⟨v',w',m',h2,h3,h4,h5,h6,h7⟩:=buildSlice_ok (hT ty ti hti) h hp hs hr;refine⟨v',w',m',.inl ?_,h3,h4,h5,h6,h7⟩;have:(ps.map fun x=>(x.1,a.eval x.2))=(ps.toList.map fun p=>(p.1,a.eval p.2)).toArray:=by apply Array.ext';simp
   simp only[execOp,Sem.run_bind];rw[this,h2];rfl
  ·cases h
 case load ty x=>
  split at h
  ·rename_i ti a1 hti h1
   have hP:=aLoad_P h;obtain⟨hu,v',h2,h3⟩:=load_ok (hT ty ti hti) h (hev x (by simp[Op.operands]) _ h1) (hcont hP);exact .pure hr hu (by simp[execOp,h2]) h3
  ·cases h
 case store ty x y=>
  split at h
  ·rename_i ti a1 a2 hti h1 h2
   have hW:=aStore_W h;obtain⟨hv,w',h3,h4,h5⟩:=store_ok (hT ty ti hti) h (hev x (by simp[Op.operands]) _ h1) (hev y (by simp[Op.operands]) _ h2) (fun b o p hm hh=>hg b o p (by rw[hW];simp) (by rw[hW];simp) hm hh) hr;subst hv;exact⟨undef,w',m,.inr ⟨by simp[execOp,h3],rfl⟩,h4,fun _ _ h=>h,fun _ _=>rfl,.tup [] [] rfl (fun i c v h=>by simp at h),h5⟩
  ·cases h
 case makeMap ty r=>
  split at h
  ·rename_i hn
   simp only[Option.some.injEq,Prod.mk.injEq] at h;obtain⟨_,rfl,rfl⟩:=h;obtain⟨v',w',p,h1,h2⟩:=makeMap_ok (P:=P) (t:=ty) hs hr
   cases r with
   |none=>exact .born hs ⟨v',w',p,by simp[execOp,h1],h2⟩
   |some _=>simp at hn
  ·cases h
 case lookup ty x k ok=>
  split at h
  ·rename_i ti a1 a2 hti h1 h2
   have hP:=(aLookup_P h).1;obtain⟨hu,v',h3,h4⟩:=lookup_ok (hT ty ti hti) h (hev x (by simp[Op.operands]) _ h1) (hev k (by simp[Op.operands]) _ h2) (hcont hP);exact .pure hr hu (by simp[execOp,h3]) h4
  ·cases h
 case mapUpdate ty x k y=>
  split at h
  ·rename_i ti a1 a2 a3 hti h1 h2 h3
   have hW:=aMapUpdate_W h;obtain⟨hv,w',h4,h5,h6⟩:=mapUpdate_ok (hT ty ti hti) h (hev x (by simp[Op.operands]) _ h1) (hev k (by simp[Op.operands]) _ h2) (hev y (by simp[Op.operands]) _ h3) (fun b o p hm hh=>hg b o p (by rw[hW];simp) (by rw[hW];simp) hm hh) hr;subst hv;exact⟨undef,w',m,.inr ⟨by simp[execOp,h4],rfl⟩,h5,fun _ _ h=>h,fun _ _=>rfl,.tup [] [] rfl (fun i c v h=>by simp at h),h6⟩
  ·cases h
 case nilCheck x=>
  split at h
  ·rename_i b i off h1
   obtain⟨h4,_,hu⟩:=P1_inv h;simp only[Option.some.injEq] at h4;subst h4;have hb:=hev x (by simp[Op.operands]) _ h1;generalize hxv:a.eval x=xv at hb;refine .pure (v':=xv) hr hu ?_ hb;cases hb;simp[execOp,hxv]
  ·rename_i cs off h1
   obtain⟨h4,_,hu⟩:=P1_inv h;simp only[Option.some.injEq] at h4;subst h4;have hb:=hev x (by simp[Op.operands]) _ h1;generalize hxv:a.eval x=xv at hb;refine .pure (v':=xv) hr hu ?_ hb;cases hb;simp[execOp,hxv]
  ·rename_i f cs h1
   obtain⟨h4,_,hu⟩:=P1_inv h;simp only[Option.some.injEq] at h4;subst h4;have hb:=hev x (by simp[Op.operands]) _ h1;generalize hxv:a.eval x=xv at hb;refine .pure (v':=xv) hr hu ?_ hb;cases hb;simp[execOp,hxv]
  ·cases h
 case binOp op ty x y ty2=>
  split at h
  ·rename_i a1 a2 h1 h2
   obtain⟨h4,_,hu⟩:=P1_inv h
   have hbn:∃v',(do eqGuard op ty x y (a.eval x) (a.eval y);binOp op ty (a.eval x) (a.eval y):Sem Value).run P w=.ok v' w∧VR w S m v v':=by
    cases hb:aBin Θ op ty a1 a2 with
    |some v1=>
     rw[hb] at h4;have h4:some v1=some v:=h4;rw[h4] at hb;exact bin_ok (P:=P) (ox:=x) (oy:=y) hT hb (hev x (by simp[Op.operands]) _ h1) (hev y (by simp[Op.operands]) _ h2)
    |none=>
     rw[hb] at h4;exact nil_ok (P:=P) (ox:=x) (oy:=y) hT h4 (hev x (by simp[Op.operands]) _ h1) fun c hc=>by rw[hc];rfl
   obtain⟨v',h5,h6⟩:=hbn;refine .pure hr hu ?_ h6;simp only[execOp];rw[Sem.run_bind,h5];rfl
  ·cases h
 case unOp op ty x=>
  split at h
  ·rename_i a1 h1
   obtain⟨h4,_,hu⟩:=P1_inv h;obtain⟨v',h5,h6⟩:=un_ok (P:=P) h4 (hev x (by simp[Op.operands]) _ h1);exact .pure hr hu (by simp[execOp,h5]) h6
  ·cases h
 case convert src dst' x=>
  split at h
  ·rename_i a1 ti h1 hti
   obtain⟨h4,_,hu⟩:=P1_inv h;obtain⟨d,hund,_⟩:=(hT src ti hti).und;obtain⟨v',h5,h6⟩:=conv_ok hT hund h4 (hev x (by simp[Op.operands]) _ h1);exact .pure hr hu (by simp[execOp,h5]) h6
  ·cases h
 case makeFunc fn first caps=>
  split at h
  ·rename_i f
   split at h
   ·rename_i hf
    split at h
    ·rename_i cs h1
     obtain⟨h4,_,hu⟩:=P1_inv h;simp only[Option.some.injEq] at h4;subst h4;have hL:=evs_ok (w:=w) (S:=S) (m:=m) (a:=a) (fun x hx=>hev x (by simp only[Op.operands,Array.mem_append];exact .inr (by simpa using hx))) h1;have hf0:first=#[]:=by simpa using hf
     refine .pure hr hu (v':=.func (.func f) #[] ⟨caps.toList.map a.eval⟩) ?_ (.fn f cs _ hL.1 hL.2);simp[execOp,Instr.makeFunc,hf0];apply Array.ext';simp
    ·cases h
   ·cases h
  ·cases h
 case makeSlice ty x y=>
  split at h
  ·rename_i ti a1 a2 hti h1 h2
   obtain⟨v',w',p,h3,h4⟩:=make_ok (hT ty ti hti) h (hev x (by simp[Op.operands]) _ h1) (hev y (by simp[Op.operands]) _ h2) hs hr;exact .born hs ⟨v',w',p,by simp[execOp,h3],h4⟩
  ·cases h
 case slice ty x lo hi mx=>
  split at h
  ·rename_i ti a1 hti h1
   split at h
   ·rename_i lo' hi' mx' h2 h3 h4
    have ov:∀(q:Option Operand) (r:Option AV),(∀z,q=some z→EV w S m t a z)→(match q with|none=>some none|some o=>(ev t o).map some)=some r→OV w S m r (q.map a.eval):=by
     intro q r hq hh
     cases q with
     |none=>simp at hh;subst hh;trivial
     |some z=>
      simp only[Option.map_eq_some_iff] at hh;obtain⟨b,hb,rfl⟩:=hh;exact hq z rfl _ hb
    obtain⟨hu,v',h5,h6⟩:=slice_ok (hT ty ti hti) h (hev x (by simp[Op.operands]) _ h1) (ov lo lo' (fun z hz=>hev z (by subst hz;simp[Op.operands])) h2)
     (ov hi hi' (fun z hz=>hev z (by subst hz;simp[Op.operands])) h3) (ov mx mx' (fun z hz=>hev z (by subst hz;simp[Op.operands])) h4)
    exact .pure hr hu (by simp[execOp,h5]) h6
   ·cases h
  ·cases h
 case fieldAddr ty x f=>
  split at h
  ·rename_i ti a1 hti h1
   obtain⟨hu,v',h5,h6⟩:=field_ok (hT ty ti hti) h (hev x (by simp[Op.operands]) _ h1);exact .pure hr hu (by simp[execOp,h5]) h6
  ·cases h
 case field ty x f=>
  split at h
  ·rename_i ti a1 hti h1
   obtain⟨hu,v',h5,h6⟩:=fieldV_ok (hT ty ti hti) h (hev x (by simp[Op.operands]) _ h1);exact .pure hr hu (by simp[execOp,h5]) h6
  ·cases h
 case indexAddr ty x ix=>
  split at h
  ·rename_i ti a1 a2 hti h1 h2
   obtain⟨hu,v',h5,h6⟩:=indexAddr_ok (hT ty ti hti) h (hev x (by simp[Op.operands]) _ h1) (hev ix (by simp[Op.operands]) _ h2);exact .pure hr hu (by simp[execOp,h5]) h6
  ·cases h
 case index ty x ix=>
  split at h
  ·rename_i ti a1 a2 hti h1 h2
   obtain⟨hu,v',h5,h6⟩:=index_ok (hT ty ti hti) h (hev x (by simp[Op.operands]) _ h1) (hev ix (by simp[Op.operands]) _ h2);exact .pure hr hu (by simp[execOp,h5]) h6
  ·cases h
 case extract x i=>
  split at h
  ·rename_i cs h1
   obtain⟨h4,_,hu⟩:=P1_inv h;obtain⟨v',h5,h6⟩:=extract_ok (P:=P) h4 (hev x (by simp[Op.operands]) _ h1);exact .pure hr hu (by simp[execOp,h5]) h6
  ·cases h
 case call cl=>
  split at h
  ·rename_i b hcal
   split at h
   ·rename_i as h1
    have hL:=evs_ok (w:=w) (S:=S) (m:=m) (a:=a) (fun x hx=>hev x (by simp only[Op.operands,Call.operands,Array.mem_append];exact .inr (by simpa using hx))) h1;have hargs:cl.args.map a.eval=(cl.args.toList.map a.eval).toArray:=by apply Array.ext';simp
    generalize cl.args.toList.map a.eval=vs at hL hargs;unfold aBuiltin at h;split at h
    ·split at h
     ·rename_i x ti hti
      cases hts:cl.argTypes[0]? with
      |none=>simp[hts] at hti
      |some t0=>
      simp only[hts,Option.bind_some] at hti;split at h
      ·rename_i hlt
       match vs,hL with
       |[xv],hL=>
       obtain⟨hu,v',h5,h6⟩:=len_ok (P:=P) (ty:=type) (hT t0 ti hti) hlt h (hL.2 0 _ _ rfl rfl) hcont;refine .pure hr hu (v':=v') ?_ h6
       have hlen:∀ts:Array TypeId,ts[0]?=some t0→(Builtin.len_ ts type #[xv]).run P w=(Builtin.len_ #[t0] type #[xv]).run P w:=fun ts hh=>by
        simp only[Builtin.len_,hh];rfl
       simp only[execOp,resolve,hcal,hargs,Sem.run_bind,Sem.run_pure,Result.andThen_ok,invoke,builtin];rw[hlen _ hts,h5];rfl
      ·cases h
     ·cases h
    ·split at h
     ·rename_i x y ti ti2 hti hti2
      cases hts:cl.argTypes[0]? with
      |none=>simp[hts] at hti
      |some t0=>
      cases hts2:cl.argTypes[1]? with
      |none=>simp[hts2] at hti2
      |some t1=>
      simp only[hts,Option.bind_some] at hti;simp only[hts2,Option.bind_some] at hti2;split at h
      ·rename_i hk2
       match vs,hL with
       |[xv,yv],hL=>
       have happ:∀ts:Array TypeId,ts[0]?=some t0→ts[1]?=some t1→(Builtin.append_ ts type #[xv,yv]).run P w=(Builtin.append_ #[t0,t1] type #[xv,yv]).run P w:=fun ts hh hh2=>by
        simp only[Builtin.append_,hh,hh2];rfl
       have hx:=hL.2 0 _ _ rfl rfl;have hy:=hL.2 1 _ _ rfl rfl;obtain⟨v',w',m',h5,h6,h7,h8,h9,h10,_⟩:=append_ok (ty:=type) (hT t0 ti hti) (hT t1 ti2 hti2) hk2 h hx hy hg hs hr;refine⟨v',w',m',.inl ?_,h6,h7,h8,h9,h10⟩;simp only[execOp,resolve,hcal,hargs,Sem.run_bind,Sem.run_pure,Result.andThen_ok,invoke,builtin];rw[happ _ hts hts2,h5];rfl
      ·cases h
     ·cases h
    ·obtain⟨h4,_,hu⟩:=P1_inv h;obtain⟨v',h5,h6⟩:=min_ok (P:=P) (ts:=cl.argTypes) (ty:=type) hL h4;refine .pure hr hu (v':=v') ?_ h6;simp only[execOp,resolve,hcal,hargs,Sem.run_bind,Sem.run_pure,Result.andThen_ok,invoke,builtin];rw[h5];rfl
    ·cases h
   ·cases h
  ·cases h
end
end Go.Av
namespace Go.Av
theorem mapM_get {α β:Type} {f:α→Option β}:∀{l:List α} {l':List β},l.mapM f=some l'→l'.length=l.length∧∀(i:Nat) (x:α),l[i]?=some x→∃y,l'[i]?=some y∧f x=some y
 |[],l',h=>by simp at h;subst h;exact⟨rfl,fun i x h=>by simp at h⟩
 |a::l,l',h=>by
  rw[List.mapM_cons] at h
  cases hf:f a with
  |none=>simp[hf] at h
  |some b=>
   cases hr:l.mapM f with
   |none=>simp[hf,hr] at h
   |some r=>
    simp[hf,hr] at h;subst h;obtain⟨h1,h2⟩:=mapM_get hr;refine⟨by simp[h1],fun i x hx=>?_⟩
    cases i with
    |zero=>simp at hx;subst hx;exact⟨b,rfl,hf⟩
    |succ i=>simp at hx;exact h2 i x hx
section
variable {P:Program} {w:World} {S F:Nat→Prop} {m:Pm} {g:Heap} {Θ:Tab}
theorem rf_scal {fr:Bool} {d:Nat} {h:Heap} {a a':AV} (hf:rf fr d h a=some a') (hs:scal a=true):scal a'=true:=by
 cases d with
 |zero=>simp[rf] at hf
 |succ d=>
  cases a<;>simp only[rf,reduceCtorEq,Option.some.injEq] at hf<;>simp only[scal,Bool.false_eq_true] at hs<;>(try (subst hf;rfl))
  all_goals (repeat' split at hf)<;>simp_all<;>(first|(subst hf;rfl)|skip)
def SF (fr:Bool) (S:Nat→Prop) (h:Heap) (m:Pm):Nat→Prop:=fun k=>(fr=true∧S k)∨∃b o p,h b=some o∧m b=some p∧k=p.blk
theorem rf_all (fr:Bool) (h:Heap) (hcont:∀b o p,h b=some o→m b=some p→CR w S m p o):∀d:Nat,
  (∀a a' v,rf fr d h a=some a'→VR w S m a v→VR w (SF fr S h m) (fun _=>none) a' v)∧
  (∀cs cs' vs,rfs fr d h cs=some cs'→LR w S m cs vs→LR w (SF fr S h m) (fun _=>none) cs' vs)∧
  (∀es es',rfe fr d h es=some es'→es'.length=es.length∧∀(i:Nat) (e:List AV),es[i]?=some e→∃e',es'[i]?=some e'∧e'.length=e.length∧(e.all scal=true→e'.all scal=true)∧
    ∀vs,LR w S m e vs→LR w (SF fr S h m) (fun _=>none) e' vs):=by
 intro d
 induction d with
 |zero=>exact⟨fun a a' v h=>by simp[rf] at h,fun cs cs' vs h=>by simp[rfs] at h,fun es es' h=>by simp[rfe] at h⟩
 |succ d ih=>
  obtain⟨ih1,ih2,ih3⟩:=ih
  have hs:∀cs cs',rfs fr d h cs=some cs'→cs'.length=cs.length∧(cs.all scal=true→cs'.all scal=true):=by
   intro cs cs' hh
   cases d with
   |zero=>simp[rfs] at hh
   |succ d=>
    simp only[rfs] at hh;obtain⟨k1,k2⟩:=mapM_get hh;refine⟨k1,fun ha=>List.all_eq_true.2 fun x hx=>?_⟩;obtain⟨i,hi,rfl⟩:=List.mem_iff_getElem.1 hx;have hi':i<cs.length:=by omega
    obtain⟨y,hy,hy'⟩:=k2 i cs[i] (by simp[hi']);have:cs'[i]=y:=by simpa[hi] using hy
    rw[this];exact rf_scal hy' (List.all_eq_true.1 ha _ (List.getElem_mem _))
  refine⟨fun a a' v hf hv=>?_,fun cs cs' vs hf hl=>?_,fun es es' hf=>?_⟩
  ·cases hv<;>simp only[rf,reduceCtorEq] at hf
   case any=>simp at hf;subst hf;exact .any _
   case bool=>simp at hf;subst hf;exact .bool _
   case int=>simp at hf;subst hf;exact .int _ _
   case str=>simp at hf;subst hf;exact .str _
   case nilp=>simp at hf;subst hf;exact .nilp
   case nilf=>simp at hf;subst hf;exact .nilf
   case nili=>simp at hf;subst hf;exact .nili
   case nils=>simp at hf;subst hf;exact .ron none 0
   case emp a=>simp at hf;subst hf;exact .ron a 0
   case emn a=>simp at hf;subst hf;exact .ron (some a) 0
   case nilm=>simp at hf;subst hf;exact .nilm
   case ifc t v=>simp at hf;subst hf;exact .ifc t v
   case bm f cs vs hl hr=>
    split at hf
    ·rename_i cs' hcs
     simp only[Option.some.injEq] at hf;subst hf;have:=ih2 _ _ _ hcs ⟨hl,hr⟩;exact .bm _ _ _ this.1 this.2
    ·cases hf
   case ptr b i off p hm=>
    split at hf
    ·rename_i es hb
     split at hf
     ·rename_i e he
      split at hf
      ·rename_i e' he'
       simp only[Option.some.injEq] at hf;subst hf;have hC:=hcont b _ p hb hm;obtain⟨us,hl,hat⟩:=hC.seg he 0 e.length (by omega);simp only[List.drop_zero,List.take_length] at hl;have hl':=ih2 _ _ _ he' hl
       have key:∀(j:Nat) (c:AV),e'[j]?=some c→us[j]?=some ((us[j]?).getD undef):=by
        intro j c hj;obtain⟨u,hu,_⟩:=hl'.get hj;simp[hu]
       have hadd:(⟨p.blk,p.off+i*p.sz+off,none⟩:Addr)=⟨p.blk,p.off+i*p.sz+off,none⟩:=rfl;refine .rp e' off p.blk (p.off+i*p.sz) (fun j=>(us[j]?).getD undef) (.inr ⟨b,_,p,hb,hm,rfl⟩) (fun j c hj=>?_) (fun j c hj=>hl'.2 j c _ hj (key j c hj));have:=hat j _ (key j c hj);simpa using this
      ·cases hf
     ·cases hf
    ·cases hf
   case rp cells off blk o us hS hc hr=>
    split at hf
    ·rename_i hfr
     simp only[Option.some.injEq] at hf;subst hf;exact .rp cells off blk o us (.inl ⟨hfr,hS⟩) hc (fun j c hj=>(hr j c hj).mono (Ext.refl _ _) (fun k hk=> .inl ⟨hfr,hk⟩) (fun _ _ h=>h))
    ·cases hf
   case sl b off len cap p h1 h2 h3 h4 hm=>
    split at hf
    ·rename_i es hb
     split at hf
     ·rename_i hle
      split at hf
      ·rename_i es' he'
       simp only[Option.some.injEq] at hf;subst hf;obtain⟨k1,k2⟩:=ih3 _ _ he';obtain⟨arr,ty,c1,c2,c3,c4,c5⟩:=(hcont b _ p hb hm).er;have hE:=(c5.drop off).take len;have hlen:es'.length=len:=by rw[k1];simp;omega
       have hroom:=Nat.mul_le_mul_right p.sz c3
       -- the cells,by element and place
       generalize hus:((((arr.toList.drop p.off).take (p.ext*p.sz)).drop (off*p.sz)).take (len*p.sz))=us at hE
       have back:∀(i:Nat) (e':List AV),es'[i]?=some e'→i<len∧∃e,((es.drop off).take len)[i]?=some e∧e'.length=p.sz∧e'.all scal=true∧
         LR w (SF fr S h m) (fun _=>none) e' ((us.drop (i*p.sz)).take p.sz):=by
        intro i e' hi;have hil:i<len:=by rw[←hlen];exact(List.getElem?_eq_some_iff.1 hi).1
        have hil':i<((es.drop off).take len).length:=by rw[←k1];omega
        obtain⟨e2,he2,l1,l2,l3⟩:=k2 i _ (List.getElem?_eq_getElem hil');rw[hi] at he2;cases he2;obtain⟨m1,m2,m3⟩:=hE.each i _ (List.getElem?_eq_getElem hil');exact⟨hil,_,List.getElem?_eq_getElem hil',by rw[l1,m1],l2 m2,l3 _ m3⟩
       have cellv:∀i j c,getc es' i j=some c→∃u,us[i*p.sz+j]?=some u∧VR w (SF fr S h m) (fun _=>none) c u:=by
        intro i j c hg;unfold getc at hg
        cases he:es'[i]? with
        |none=>simp[he] at hg
        |some e'=>
         simp[he] at hg;obtain⟨_,_,_,hz,_,hL⟩:=back i e' he;obtain⟨u,hu,hr⟩:=hL.get hg;have hj:j<p.sz:=by rw[←hz];exact(List.getElem?_eq_some_iff.1 hg).1
         rw[List.getElem?_take,if_pos hj,List.getElem?_drop] at hu;exact⟨u,hu,hr⟩
       have lies:∀k u,us[k]?=some u→w.cell? ⟨p.blk,p.off+off*p.sz+k,none⟩=some u:=by
        intro k u hk;rw[←hus,List.getElem?_take] at hk;split at hk
        ·rw[List.getElem?_drop,List.getElem?_take] at hk;split at hk
         ·rw[List.getElem?_drop,getElem?_toList] at hk;rw[cell?_cells c1,show p.off+off*p.sz+k=p.off+(off*p.sz+k) by omega];exact hk
         ·cases hk
        ·cases hk
       have:=VR.ro (w:=w) (S:=SF fr S h m) (m:=fun _=>none) es' p.blk (p.off+off*p.sz) p.sz cap (fun i j=>(us[i*p.sz+j]?).getD undef) (.inr ⟨b,_,p,hb,hm,rfl⟩)
        (fun i e' hi=>by obtain⟨_,_,_,hz,hsc,_⟩:=back i e' hi;exact⟨hz,hsc⟩) (by omega)
        (fun i j c hg=>by
          obtain⟨u,hu,_⟩:=cellv i j c hg;have:=lies _ _ hu
          rw[hu,show p.off+off*p.sz+i*p.sz+j=p.off+off*p.sz+(i*p.sz+j) by omega,this];rfl)
        (fun i j c hg=>by obtain⟨u,hu,hr⟩:=cellv i j c hg;rw[hu];exact hr)
       rw[hlen] at this;exact this
      ·cases hf
     ·cases hf
    ·cases hf
   case ron a cap=>
    split at hf
    ·simp only[Option.some.injEq] at hf;subst hf;exact .ron a cap
    ·cases hf
   case ro es blk o sz cap us hS hz hcap hc hr=>
    split at hf
    ·rename_i hor
     simp only[Option.some.injEq] at hf;subst hf;by_cases hfr:fr=true
     ·exact .ro es blk o sz cap us (.inl ⟨hfr,hS⟩) hz hcap hc (fun i j c hj=>(hr i j c hj).mono (Ext.refl _ _) (fun k hk=> .inl ⟨hfr,hk⟩) (fun _ _ h=>h))
     ·have he:es=[]:=hor.resolve_left hfr;subst he;exact .ron _ _
    ·cases hf
   case fn f caps vs hl hr=>
    split at hf
    ·rename_i cs' hcs
     simp only[Option.some.injEq] at hf;subst hf;have:=ih2 _ _ _ hcs ⟨hl,hr⟩;exact .fn f cs' vs this.1 this.2
    ·cases hf
   case agg caps vs hl hr=>
    split at hf
    ·rename_i cs' hcs
     simp only[Option.some.injEq] at hf;subst hf;have:=ih2 _ _ _ hcs ⟨hl,hr⟩;exact .agg cs' vs this.1 this.2
    ·cases hf
   case tup caps vs hl hr=>
    split at hf
    ·rename_i cs' hcs
     simp only[Option.some.injEq] at hf;subst hf;have:=ih2 _ _ _ hcs ⟨hl,hr⟩;exact .tup cs' vs this.1 this.2
    ·cases hf
  ·simp only[rfs] at hf;obtain⟨k1,k2⟩:=mapM_get hf;refine⟨by rw[k1];exact hl.1,fun i c v hc hv=>?_⟩;have hi:i<cs.length:=by rw[←k1];exact(List.getElem?_eq_some_iff.1 hc).1
   obtain⟨y,hy,hy'⟩:=k2 i cs[i] (by simp[hi]);rw[hc] at hy;cases hy;exact ih1 _ _ _ hy' (hl.2 i cs[i] v (by simp[hi]) hv)
  ·simp only[rfe] at hf;obtain⟨k1,k2⟩:=mapM_get hf;refine⟨k1,fun i e he=>?_⟩;obtain⟨e',he',hrf⟩:=k2 i e he;obtain⟨l1,l2⟩:=hs _ _ hrf;exact⟨e',he',l1,l2,fun vs hl=>ih2 _ _ _ hrf hl⟩
end
end Go.Av
namespace Go.Av
def wd (ro:Option Nat):Fence:={ Fence.wide with round:=ro }
theorem wd_fn (ro:Option Nat) (f:FuncId):(wd ro).fn f:=trivial
theorem wd_depth (ro:Option Nat) (n:Nat):(wd ro).depth.isSome=true→1≤n:=fun h=>by cases h
theorem callsIn_wd {ro:Option Nat} {n:Nat} {P:Program} {f:FuncId} {args:Array Value} {w:World} {R:Ending→World→Prop} (h:Calls P f args w R):CallsIn (wd ro) n P f args w R:=
 (callsIn_wide (n:=n)).2 h
def ExR:AEx→Exit→Prop
 | .normal,.normal=>True
 | .exit i,.exit j=>i=j
 | .goto i,.goto j=>i=j
 | .ret,.ret=>True
 |_,_=>False
structure St (w:World) (S F:Nat→Prop) (m:Pm) (n:Nat) (w':World) (S':Nat→Prop) (m':Pm) (n':Nat):Prop where
 ext:Ext (fun k=>S k∨F k) w w'
 grow:∀k,S k→S' k
 new:∀k,S' k→S k∨w.heap.size≤k
 le:∀b p,m b=some p→m' b=some p
 old:∀b,b<n→m' b=m b
 free:∀b,n'≤b→m' b=none
def FnIn (P:Program) (f:FuncId):Prop:=∃fn,P.funcs[f]?=some fn∧fn.body.isSome=true∧fn.name≠ "runtime.NumGoroutine"
def FnS (P:Program) (f:FuncId) (args:List AV) (h:Heap) (n:Nat) (res:AV) (h':Heap) (n':Nat):Prop:=
 (n≤n'∧(∀b,b<n→h b=none→h' b=none)∧((∀b,n≤b→h b=none)→∀b,n'≤b→h' b=none))∧FnIn P f∧∀(w:World) (S F:Nat→Prop) (m:Pm) (vs:List Value),(∀b,n≤b→h b=none)→Rel w S F m h→LR w S m args vs→(∀b,n≤b→m b=none)→
   Calls P f vs.toArray w fun e w'=>∃v S' m',e=.returned v∧St w S F m n w' S' m' n'∧VR w' S' m' res v∧Rel w' S' F m' h'
def updOK (c:Cls) (n0 s:Nat) (h:Heap) (u:Upd):Prop:=∀x∈u,(x.1=s∧x.2≠none)∨(c=.F∧n0≤x.1∧x.2=none∧h x.1≠none)
def mg (m:Pm) (h g h':Heap):Heap:=fun b=>match h' b with
 |some o=>some o
 |none=>if (h b).isNone && (m b).isSome then g b else none
def Fr' (m:Pm) (g h:Heap) (k:Nat):Prop:=∃b o p,h b=none∧g b=some o∧m b=some p∧k=p.blk
theorem Rel.under {w:World} {S F:Nat→Prop} {m:Pm} {g h:Heap} (hr:Rel w S F m g) (hh:∀b o p,m b=some p→h b=some o→g b=some o):Rel w S (fun k=>F k∨Fr' m g h k) m h:=
 ⟨fun b o p hb hm=>hr.content b o p (hh b o p hm hb) hm,fun b₁ b₂ o₁ o₂ p₁ p₂ g₁ g₂ q₁ q₂=>hr.disj b₁ b₂ o₁ o₂ p₁ p₂ (hh _ _ _ q₁ g₁) (hh _ _ _ q₂ g₂) q₁ q₂,
  fun b o p hb hm=>⟨(hr.apart b o p (hh b o p hm hb) hm).1,fun hk=>hk.elim (hr.apart b o p (hh b o p hm hb) hm).2 fun⟨c,o',q,h1,h2,h3,h4⟩=>by
   have hne:b≠c:=fun e=>by subst e;rw[hb] at h1;cases h1
   exact hr.disj b c o o' p q (hh b o p hm hb) h2 hm h3 hne h4⟩,
  hr.inS,fun k hk=>hk.elim (hr.inF k) (fun⟨c,o',q,_,_,h3,h4⟩=>by rw[h4];exact hr.inm c q h3),hr.inm,hr.glob⟩
theorem Rel.over {w w':World} {S S' F:Nat→Prop} {m m':Pm} {g h h':Heap} (hr:Rel w S F m g) (hk:Rel w' S' (fun k=>F k∨Fr' m g h k) m' h') (he:Ext (fun k=>S k∨(F k∨Fr' m g h k)) w w')
  (hg:∀k,S k→S' k) (hn:∀k,S' k→S k∨w.heap.size≤k) (hle:∀b p,m b=some p→m' b=some p):Rel w' S' F m' (mg m h g h'):=by
 have key:∀b o,mg m h g h' b=some o→h' b=some o∨∃p,h b=none∧g b=some o∧m b=some p:=by
  intro b o hb;unfold mg at hb;split at hb
  ·rename_i o' ho;exact .inl (ho.trans hb)
  ·split at hb
   ·rename_i hc
    simp only[Bool.and_eq_true,Option.isNone_iff_eq_none,Option.isSome_iff_exists] at hc;obtain⟨h1,p,h2⟩:=hc;exact .inr ⟨p,h1,hb,h2⟩
   ·cases hb
 refine⟨fun b o p hb hm=>?_,fun b₁ b₂ o₁ o₂ p₁ p₂ g₁ g₂ q₁ q₂ hne=>?_,fun b o p hb hm=>?_,hk.inS,fun k h=>hk.inF k (.inl h),hk.inm,hk.glob⟩
 ·rcases key b o hb with h1|⟨q,h1,h2,h3⟩
  ·exact hk.content b o p h1 hm
  ·have:=hle b q h3;rw[hm] at this;cases this;exact(hr.content b o p h2 h3).mono (he.mono fun k hk=> .inl hk) hg hle (he.same _ (.inr (.inr ⟨b,o,p,h1,h2,h3,rfl⟩)))
 ·rcases key b₁ o₁ g₁ with h1|⟨r₁,h1,h2,h3⟩<;>rcases key b₂ o₂ g₂ with k1|⟨r₂,k1,k2,k3⟩
  ·exact hk.disj _ _ _ _ _ _ h1 k1 q₁ q₂ hne
  ·have:=hle _ _ k3;rw[q₂] at this;cases this;intro e;exact(hk.apart _ _ _ h1 q₁).2 (.inr ⟨b₂,o₂,p₂,k1,k2,k3,e⟩)
  ·have:=hle _ _ h3;rw[q₁] at this;cases this;intro e;exact(hk.apart _ _ _ k1 q₂).2 (.inr ⟨b₁,o₁,p₁,h1,h2,h3,e.symm⟩)
  ·have:=hle _ _ h3;rw[q₁] at this;cases this;have:=hle _ _ k3;rw[q₂] at this;cases this;exact hr.disj _ _ _ _ _ _ h2 k2 h3 k3 hne
 ·rcases key b o hb with h1|⟨q,h1,h2,h3⟩
  ·exact⟨(hk.apart b o p h1 hm).1,fun hF=>(hk.apart b o p h1 hm).2 (.inl hF)⟩
  ·have:=hle b q h3;rw[hm] at this;cases this;obtain⟨k1,k2⟩:=hr.apart b o p h2 h3;exact⟨fun hS=>(hn _ hS).elim k1 fun hlt=>by have:=hr.inm b p h3;omega,k2⟩
theorem mg_le {m:Pm} {h g h':Heap} {b:Nat} {o:AO} (hb:h' b=some o):mg m h g h' b=some o:=by
 unfold mg;rw[hb]
structure OpS1 (P:Program) (N:Nat) (ops:Array Oper) (n0 i:Nat) (σ:OS) (c:Cls) (σ':OS) (o:Oper) (v:AV) (u:Upd):Prop where
 op:ops[i]?=some o
 dst:inN N o.dst=true
 t:σ'.t=put σ.t o.dst v
 x:σ.x≤σ'.x
 quiet:c.w=false→σ'.x=σ.x∧σ'.h=upds σ.h u∧updOK c n0 (n0+i) σ.h u
 pure:c=.P→u=[]
 rd:∀b q,c=.R b q→u=[]∧rdQ q (σ.h b)≠none
 sl:∀s,c=.N s→s=n0+i
 keep:∀l s,c=.K l s→(∀x∈l,rdQ x.2 (σ'.h x.1)=rdQ x.2 (σ.h x.1))∧∀b∈s,σ'.h b=σ.h b
 res:∀b,b≠n0+i→b<σ.x→σ.h b=none→σ'.h b=none
 free:(∀b,σ.x≤b→σ.h b=none)→n0+i<σ.x→∀b,σ'.x≤b→σ'.h b=none
 sim:∀(ro:Option Nat) (w:World) (S F:Nat→Prop) (m:Pm) (a:Act) (g:Heap),Rel w S F m g→(∀b o p,c.needs n0 b→m b=some p→σ.h b=some o→g b=some o)→(∀b q p,c=.R b q→m b=some p→rdQ q (g b)=rdQ q (σ.h b))→
   (∀x,x∈o.looksAt ops→VR w S m (σ.t x) (a.tmps.getD x undef))→m (n0+i)=none→(c.w=true→∀b,σ.x≤b→m b=none)→(∀b,σ.x≤b→σ.h b=none)→n0+i<σ.x→
   ∀(Q:Exit→Act→World→Prop) (K:Act→World→Prop),
    (∀v' w' S' m',Ext (fun k=>S k∨F k) w w'→(∀k,S k→S' k)→(∀k,S' k→S k∨w.heap.size≤k)→(∀b p,m b=some p→m' b=some p)→
      (c.w=false→∀b,b≠n0+i→m' b=m b)→(c.w=true→(∀b,b<σ.x→b≠n0+i→m' b=m b)∧∀b,σ'.x≤b→m' b=none)→(c.w=false→∀x∈u,x.1≠n0+i→∃p,m x.1=some p)→
      VR w' S' m' v v'→(c.w=false→Rel w' S' F m' (upds g u))→(c.w=true→Rel w' S' F m' (mg m σ.h g σ'.h))→K (a.put o.dst v') w')→wpOpIn (wd ro) 0 P ops Q i K a w
def OpS (P:Program) (N:Nat) (ops:Array Oper) (n0 i:Nat) (σ:OS) (c:Cls) (σ':OS):Prop:=∃o v u,OpS1 P N ops n0 i σ c σ' o v u
theorem upds_notin:∀(u:Upd) (h:Heap) (b:Nat),(∀x∈u,x.1≠b)→upds h u b=h b
 |[],_,_,_=>rfl
 |(c,o)::u,h,b,hx=>by
  have h1:=hx (c,o) (by simp);show upds (upd h c o) u b=h b;rw[upds_notin u _ b (fun x hm=>hx x (by simp[hm])),upd_ne (Ne.symm h1)]
theorem upds_in:∀(u:Upd) (h h':Heap) (b:Nat),(∃x∈u,x.1=b)→upds h u b=upds h' u b
 |[],_,_,_,hx=>by obtain⟨_,h,_⟩:=hx;cases h
 |(c,o)::u,h,h',b,hx=>by
  show upds (upd h c o) u b=upds (upd h' c o) u b;by_cases hin:∃x∈u,x.1=b
  ·exact upds_in u _ _ b hin
  ·have hno:∀x∈u,x.1≠b:=fun x hm e=>hin ⟨x,hm,e⟩
   rw[upds_notin u _ b hno,upds_notin u _ b hno];obtain⟨y,hy,he⟩:=hx;rcases List.mem_cons.1 hy with rfl|hy
   ·simp only at he;subst he;rw[upd_same,upd_same]
   ·exact absurd he (hno y hy)
section
variable {P:Program} {w:World} {S F:Nat→Prop} {m:Pm} {g:Heap} {Θ:Tab}
theorem gd_wanted {ops:Array Oper} {t:Fr} {o:Oper} {a:Act} {r:Bool} (h:gd ops t o=some r) (ht:∀x,x∈o.looksAt ops→VR w S m (t x) (a.tmps.getD x undef)):
  Region.wanted o (yielded ops a.tmps)=r:=by
 unfold gd at h;unfold Region.wanted;split at h
 ·rename_i hg;simp only[Option.some.injEq] at h;subst h;rw[hg]
 ·rename_i gg want hg
  rw[hg];simp only;unfold yielded;split at h
  ·rename_i d hd
   have hv:=ht d (by simp[Oper.looksAt,hg,hd]);have hgd:(a.tmps[d]?).getD undef=a.tmps.getD d undef:=by simp
   simp only[hd,Option.bind_some];split at h
   ·rename_i b hb
    simp only[Option.some.injEq] at h;subst h;rw[hb] at hv;generalize hx:a.tmps.getD d undef=x at hv hgd;cases hv
    cases hq:a.tmps[d]? with
    |none=>rw[hq] at hgd;cases hgd
    |some y=>rw[hq] at hgd;simp at hgd;subst hgd;simp
   ·rename_i hb
    simp only[Option.some.injEq] at h;subst h;rw[hb] at hv;generalize hx:a.tmps.getD d undef=x at hv hgd;cases hv
    cases hq:a.tmps[d]? with
    |none=>simp
    |some y=>rw[hq] at hgd;simp at hgd;subst hgd;simp
   ·cases h
  ·rename_i hd
   simp only[Option.some.injEq] at h;subst h;simp[hd]
theorem rdCls_cases (n0:Nat) (a:AV):rdCls n0 a=.L∨rdCls n0 a=.Q:=by unfold rdCls;split<;>simp
def UO (K:Nat→Prop) (c:Cls) (n0 s:Nat) (h:Heap) (u:Upd):Prop:=
 (c≠.W→updOK c n0 s h u)∧(c=.P→u=[])∧(∀x∈u,x.1=s∨h x.1≠none)∧∀x∈u,x.1=s∨K x.1
theorem P1_upd {v':Option AV} {c:Cls} {v:AV} {u:Upd} {n0 s:Nat} {h:Heap} {K:Nat→Prop} (ha:P1 v'=some (c,v,u)):UO K c n0 s h u:=by
 obtain⟨_,_,rfl⟩:=P1_inv ha;exact⟨(fun _ x hx=>by cases hx),(fun _=>rfl),(fun x hx=>by cases hx),(fun x hx=>by cases hx)⟩
theorem one_upd {c:Cls} {n0 s:Nat} {o:AO} {h:Heap} {K:Nat→Prop} (hc:c≠.P):UO K c n0 s h [(s,some o)]:=
 ⟨fun _ x hx=>(by simp at hx;subst hx;exact .inl ⟨rfl,by simp⟩),fun h=>absurd h hc,fun x hx=>(by simp at hx;subst hx;exact .inl rfl),fun x hx=>(by simp at hx;subst hx;exact .inl rfl)⟩
theorem nil_upd {c:Cls} {n0 s:Nat} {h:Heap} {K:Nat→Prop}:UO K c n0 s h []:=⟨(fun _ x hx=>by cases hx),(fun _=>rfl),(fun x hx=>by cases hx),(fun x hx=>by cases hx)⟩
theorem evs_mem {t:Fr}:∀{os:List Operand} {as:List AV},evs t os=some as→∀x∈as,∃z∈os,ev t z=some x
 |[],as,h,x,hx=>by simp[evs] at h;subst h;cases hx
 |o::os,as,h,x,hx=>by
  simp only[evs] at h;split at h
  ·rename_i a1 as' h1 h2
   simp only[Option.some.injEq] at h;subst h;rcases List.mem_cons.1 hx with rfl|hx
   ·exact⟨o,by simp,h1⟩
   ·obtain⟨z,hz,he⟩:=evs_mem h2 x hx;exact⟨z,by simp[hz],he⟩
  ·cases h
def Leads (op:Op) (t:Fr) (b:Nat):Prop:=∃z∈op.operands,∃x,ev t z=some x∧((∃off len sz,x=.sl b off len sz)∨(∃i off,x=.ptr b i off)∨x=.mp b)
theorem leads_arg {cl:Call} {t:Fr} {b off len sz:Nat} {y:AV} {bt:Builtin} (hc:cl.callee=.builtin bt) (h:evs t cl.args.toList=some [.sl b off len sz,y]):Leads (.call cl) t b:=by
 obtain⟨z,hz,he⟩:=evs_mem h (.sl b off len sz) (by simp);exact⟨z,by simp only[Op.operands,Call.operands,Array.mem_append];exact .inr (by simpa using hz),_,he,.inl ⟨_,_,_,rfl⟩⟩
theorem append_upd {ti:TI} {h:Heap} {n0 s:Nat} {x y v:AV} {c:Cls} {u:Upd} {K:Nat→Prop} (ha:aAppend ti h n0 s x y=some (c,v,u)) (hK:∀b off len sz,x=.sl b off len sz→K b):UO K c n0 s h u:=by
 unfold aAppend at ha;split at ha
 ·split at ha
  ·split at ha
   ·split at ha
    ·split at ha
     ·simp only[Option.some.injEq,Prod.mk.injEq] at ha;obtain⟨rfl,_,rfl⟩:=ha;exact nil_upd
     ·split at ha
      ·simp only[Option.some.injEq,Prod.mk.injEq] at ha;obtain⟨rfl,_,rfl⟩:=ha;exact one_upd (by rcases rdCls_cases n0 y with h|h<;>rw[h]<;>simp)
      ·cases ha
    ·split at ha
     ·simp only[Option.some.injEq,Prod.mk.injEq] at ha;obtain⟨rfl,_,rfl⟩:=ha;exact nil_upd
     ·split at ha
      ·simp only[Option.some.injEq,Prod.mk.injEq] at ha;obtain⟨rfl,_,rfl⟩:=ha;exact one_upd (by rcases rdCls_cases n0 y with h|h<;>rw[h]<;>simp)
      ·cases ha
    ·split at ha
     ·simp only[Option.some.injEq,Prod.mk.injEq] at ha;obtain⟨rfl,_,rfl⟩:=ha;exact nil_upd
     ·split at ha
      ·simp only[Option.some.injEq,Prod.mk.injEq] at ha;obtain⟨rfl,_,rfl⟩:=ha;exact one_upd (by rcases rdCls_cases n0 y with h|h<;>rw[h]<;>simp)
      ·cases ha
    ·rename_i b off len sz
     split at ha
     ·rename_i es hb
      split at ha
      ·split at ha
       ·simp only[Option.some.injEq,Prod.mk.injEq] at ha;obtain⟨rfl,_,rfl⟩:=ha;exact⟨fun h=>absurd rfl h,(fun h=>by cases h),(fun x hx=>by simp at hx;subst hx;exact .inr (by simp[hb])),(fun x hx=>by simp at hx;subst hx;exact .inr (hK b off len sz rfl))⟩
       ·split at ha
        ·simp only[Option.some.injEq,Prod.mk.injEq] at ha;obtain⟨rfl,_,rfl⟩:=ha;refine⟨fun hW x hx=>?_,fun h=>?_,(fun x hx=>?_),(fun x hx=>?_)⟩
         ·by_cases hn:n0≤b
          ·simp at hx;rcases hx with rfl|rfl
           ·exact .inr ⟨by simp[hn],hn,rfl,by simp[hb]⟩
           ·exact .inl ⟨rfl,by simp⟩
          ·simp[hn] at hW
         ·split at h<;>cases h
         ·simp at hx;rcases hx with rfl|rfl
          ·exact .inr (by simp[hb])
          ·exact .inl rfl
         ·simp at hx;rcases hx with rfl|rfl
          ·exact .inr (hK b off len sz rfl)
          ·exact .inl rfl
        ·cases ha
      ·cases ha
     ·cases ha
    ·cases ha
   ·cases ha
  ·cases ha
 ·cases ha
theorem VR.ptr_inv {b i off:Nat} {x:Value} (h:VR w S m (.ptr b i off) x):∃p,m b=some p:=by
 generalize hav:AV.ptr b i off=av at h;cases h<;>simp only[reduceCtorEq,AV.ptr.injEq] at hav
 obtain⟨rfl,_⟩:=hav;exact⟨_,‹_›⟩
theorem aop0_upd {op:Op} {t:Fr} {h:Heap} {n0 s:Nat} {c:Cls} {v:AV} {u:Upd} (ha:aop0 Θ op t h n0 s=some (c,v,u)):UO (Leads op t) c n0 s h u:=by
 cases op<;>simp only[aop0,reduceCtorEq] at ha
 case move=>exact P1_upd ha
 case assign=>exact P1_upd ha
 case pick=>split at ha<;>first|exact P1_upd ha|cases ha
 case nilCheck=>split at ha<;>first|exact P1_upd ha|cases ha
 case binOp=>split at ha<;>first|exact P1_upd ha|cases ha
 case unOp=>split at ha<;>first|exact P1_upd ha|cases ha
 case convert=>split at ha<;>first|exact P1_upd ha|cases ha
 case extract=>split at ha<;>first|exact P1_upd ha|cases ha
 case makeFunc=>
  split at ha
  ·split at ha
   ·split at ha<;>first|exact P1_upd ha|cases ha
   ·cases ha
  ·cases ha
 case alloc=>
  split at ha
  ·unfold aAlloc at ha;split at ha
   ·simp only[Option.some.injEq,Prod.mk.injEq] at ha;obtain⟨rfl,_,rfl⟩:=ha;exact one_upd (by simp)
   ·cases ha
  ·cases ha
 case box=>
  split at ha
  ·unfold aBox at ha;split at ha
   ·split at ha
    ·simp only[Option.some.injEq,Prod.mk.injEq] at ha;obtain⟨rfl,_,rfl⟩:=ha;exact one_upd (by simp)
    ·cases ha
   ·cases ha
  ·cases ha
 case build=>
  split at ha
  ·unfold aBuild at ha;split at ha
   ·split at ha
    ·simp only[Option.some.injEq,Prod.mk.injEq] at ha;obtain⟨rfl,_,rfl⟩:=ha;exact nil_upd
    ·cases ha
   ·split at ha
    ·simp only[Option.some.injEq,Prod.mk.injEq] at ha;obtain⟨rfl,_,rfl⟩:=ha;exact nil_upd
    ·cases ha
   ·cases ha
  ·cases ha
 case buildSlice=>
  split at ha
  ·unfold aBuildSlice at ha;split at ha
   ·split at ha
    ·split at ha
     ·simp only[Option.some.injEq,Prod.mk.injEq] at ha;obtain⟨rfl,_,rfl⟩:=ha;exact nil_upd
     ·cases ha
    ·split at ha
     ·split at ha
      ·simp only[Option.some.injEq,Prod.mk.injEq] at ha;obtain⟨rfl,_,rfl⟩:=ha;exact one_upd (by simp)
      ·cases ha
     ·cases ha
   ·cases ha
  ·cases ha
 case load=>
  split at ha
  ·unfold aLoad at ha;split at ha
   ·split at ha
    ·simp only[Option.some.injEq,Prod.mk.injEq] at ha;obtain⟨rfl,_,rfl⟩:=ha;exact nil_upd
    ·cases ha
   ·cases ha
  ·cases ha
 case store=>
  split at ha
  ·have hW:=aStore_W ha;subst hW
   rename_i ti a1 a2 hti h1 h2
   unfold aStore at ha
   repeat' split at ha
   all_goals first
    |cases ha;done
    |(simp only[Option.some.injEq,Prod.mk.injEq] at ha
      obtain⟨_,_,rfl⟩:=ha;refine⟨fun h=>absurd rfl h,(fun h=>by cases h),(fun x hx=>?_),(fun x hx=>?_)⟩
      ·simp at hx;subst hx;exact .inr (by simp[*])
      ·simp at hx;subst hx
       exact .inr ⟨_,by simp[Op.operands],_,h1,.inr (.inl ⟨_,_,rfl⟩)⟩)
  ·cases ha
 case makeMap=>
  split at ha
  ·simp only[Option.some.injEq,Prod.mk.injEq] at ha;obtain⟨rfl,_,rfl⟩:=ha;exact one_upd (by simp)
  ·cases ha
 case lookup=>
  split at ha
  ·obtain⟨_,rfl⟩:=aLookup_P ha;exact nil_upd
  ·cases ha
 case mapUpdate=>
  split at ha
  ·have hW:=aMapUpdate_W ha;subst hW
   rename_i ti a1 a2 a3 hti h1 h2 h3
   unfold aMapUpdate at ha
   repeat' split at ha
   all_goals first
    |cases ha;done
    |(simp only[Option.some.injEq,Prod.mk.injEq] at ha
      obtain⟨_,_,rfl⟩:=ha;refine⟨fun h=>absurd rfl h,(fun h=>by cases h),(fun x hx=>?_),(fun x hx=>?_)⟩
      ·simp at hx;subst hx;exact .inr (by simp[*])
      ·simp at hx;subst hx
       exact .inr ⟨_,by simp[Op.operands],_,h1,.inr (.inr rfl)⟩)
  ·cases ha
 case makeSlice=>
  split at ha
  ·unfold aMake at ha;split at ha
   ·split at ha
    ·simp only[Option.some.injEq,Prod.mk.injEq] at ha;obtain⟨rfl,_,rfl⟩:=ha;exact one_upd (by simp)
    ·cases ha
   ·cases ha
  ·cases ha
 case slice=>
  split at ha
  ·split at ha
   ·unfold aSlice at ha
    repeat' split at ha
    all_goals first|(simp only[Option.some.injEq,Prod.mk.injEq] at ha;obtain⟨rfl,_,rfl⟩:=ha;exact nil_upd)|cases ha
   ·cases ha
  ·cases ha
 case fieldAddr=>
  split at ha
  ·unfold aField at ha
   repeat' split at ha
   all_goals first|(simp only[Option.some.injEq,Prod.mk.injEq] at ha;obtain⟨rfl,_,rfl⟩:=ha;exact nil_upd)|cases ha
  ·cases ha
 case field=>
  split at ha
  ·unfold aFieldV at ha
   repeat' split at ha
   all_goals first|(simp only[Option.some.injEq,Prod.mk.injEq] at ha;obtain⟨rfl,_,rfl⟩:=ha;exact nil_upd)|cases ha
  ·cases ha
 case indexAddr=>
  split at ha
  ·unfold aIndexAddr at ha
   repeat' split at ha
   all_goals first|(simp only[Option.some.injEq,Prod.mk.injEq] at ha;obtain⟨rfl,_,rfl⟩:=ha;exact nil_upd)|cases ha
  ·cases ha
 case index=>
  split at ha
  ·unfold aIndex at ha
   repeat' split at ha
   all_goals first|(simp only[Option.some.injEq,Prod.mk.injEq] at ha;obtain⟨rfl,_,rfl⟩:=ha;exact nil_upd)|cases ha
  ·cases ha
 case call c=>
  split at ha
  ·split at ha
   ·unfold aBuiltin at ha;split at ha
    ·split at ha
     ·split at ha
      ·unfold aLen at ha
       repeat' split at ha
       all_goals first|(simp only[Option.some.injEq,Prod.mk.injEq] at ha;obtain⟨rfl,_,rfl⟩:=ha;exact nil_upd)|cases ha
      ·cases ha
     ·cases ha
    ·split at ha
     ·split at ha
      ·exact append_upd ha fun b off len sz hx=>by subst hx;exact leads_arg ‹_› ‹_›
      ·cases ha
     ·cases ha
    ·exact P1_upd ha
    ·cases ha
   ·cases ha
  ·cases ha
theorem mem_looksAt {ops:Array Oper} {o:Oper} {x:Nat} (h:Operand.tmp x∈o.op.operands):x∈o.looksAt ops:=
 List.mem_append_left _ (List.mem_filterMap.2 ⟨.tmp x,by simpa using h,rfl⟩)
theorem EV.looks {ops:Array Oper} {o:Oper} {t:Fr} {a:Act} (hG:GL w S) (h:∀x,x∈o.looksAt ops→VR w S m (t x) (a.tmps.getD x undef)):∀x∈o.op.operands,EV w S m t a x:=by
 intro x hx;refine EV.of hG fun i hi=>?_
 subst hi;exact h i (mem_looksAt hx)
theorem wpOp_of {ro:Option Nat} {ops:Array Oper} {i:Nat} {o:Oper} {a:Act} {Q:Exit→Act→World→Prop} {K:Act→World→Prop} (ho:ops[i]?=some o) (hw:Region.wanted o (yielded ops a.tmps)=true) (hd:∀c,o.op≠.defer c)
  (h:o.uponIn (wd ro) 0 P a K Q ((execOp a.eval o).run P w)):wpOpIn (wd ro) 0 P ops Q i K a w:=by
 unfold wpOpIn;simp only[ho,hw,if_true];refine⟨fun f _=>wd_fn ro f, ?_⟩;rw[Oper.semAt_eq _ _ _ hd];exact h
theorem aop0_kill {op:Op} {t:Fr} {a:Act} {h:Heap} {n0 s:Nat} {c:Cls} {v:AV} {u:Upd} (ha:aop0 Θ op t h n0 s=some (c,v,u)) (hev:∀x∈op.operands,EV w S m t a x):
  ∀y∈u,y.1≠s→∃p,m y.1=some p:=by
 intro y hy hne;obtain⟨_,_,_,h4⟩:=aop0_upd ha;obtain⟨z,hz,x,hx,hor⟩:=(h4 y hy).resolve_left hne;have hv:=hev z hz _ hx;rcases hor with ⟨off,len,sz,rfl⟩|⟨i,off,rfl⟩|rfl
 ·exact hv.sl_inv
 ·exact hv.ptr_inv
 ·generalize hbb:AV.mp y.1=bb at hv;generalize a.eval z=zv at hv;cases hv<;>simp only[reduceCtorEq,AV.mp.injEq] at hbb
  case mp b' p hp=>exact⟨p,hbb▸hp⟩
theorem op_skip {N:Nat} {ops:Array Oper} {n0 i:Nat} {t:Fr} {h:Heap} {x:Nat} {o:Oper} (ho:ops[i]?=some o) (hg:gd ops t o=some false) (hd:inN N o.dst=true):
  OpS P N ops n0 i ⟨t,h,x⟩ .P ⟨put t o.dst (.tup []),h,x⟩:=by
 refine⟨o,.tup [],[],ho,hd,rfl,Nat.le_refl _,fun _=>⟨rfl,rfl,fun _ h=>by cases h⟩,fun _=>rfl,(fun _ _ h=>by cases h),(fun _ h=>by cases h),(fun _ _ h=>by cases h),fun _ _ _ h=>h,fun h _=>h,fun ro w S F m a g hr _ _ hl hs hx hfr hlt Q K hK=>?_⟩;have hw:=gd_wanted hg hl;unfold wpOpIn;simp only[ho,hw,Bool.false_eq_true,if_false];refine⟨fun f _=>wd_fn ro f, ?_⟩;exact hK undef w S m (Ext.refl _ _) (fun _ h=>h) (fun _ h=> .inl h) (fun _ _ h=>h) (fun _ _ _=>rfl) (fun h=>by cases h) (fun _ _ h=>by cases h) (.tup [] [] rfl (fun i c v h=>by simp at h)) (fun _=>hr) (fun h=>by cases h)
theorem not_five {c:Cls} (h:c.five=true):¬((∃b q,c=.R b q)∨(∃s,c=.N s)∨∃l s,c=.K l s):=by
 rintro (⟨b,q,rfl⟩|⟨b,rfl⟩|⟨b,q,rfl⟩)<;>cases h
theorem needs_five {c:Cls} (h:c.five=true) {n0 b:Nat} (h1:c≠.P) (h2:c=.L→b<n0):c.needs n0 b:=
 ⟨h1,(fun s e=>by rw[e] at h;cases h),h2,fun s q e=>by rw[e] at h;cases h⟩
theorem op_post {N:Nat} {ops:Array Oper} {n0 i:Nat} {t:Fr} {h:Heap} {x:Nat} {o:Oper} {c:Cls} {v:AV} {u:Upd} {K0:Nat→Prop} (ho:ops[i]?=some o) (hg:gd ops t o=some true) (hd:inN N o.dst=true)
  (hnd:∀c,o.op≠.defer c) (hu:UO K0 c n0 (n0+i) h u) (h5:¬((∃b q,c=.R b q)∨(∃s,c=.N s)∨∃l s,c=.K l s))
  (hop:∀(w:World) (S F:Nat→Prop) (m:Pm) (g:Heap) (a:Act),(∀x∈o.op.operands,EV w S m t a x)→(∀b o' p,c.needs n0 b→m b=some p→h b=some o'→g b=some o')→m (n0+i)=none→Rel w S F m g→
    Post P o a w S F m g (n0+i) v u∧∀y∈u,y.1≠n0+i→∃p,m y.1=some p):OpS P N ops n0 i ⟨t,h,x⟩ c ⟨put t o.dst v,upds h u,x⟩:=by
 obtain⟨hu1,hu2,hu3,_⟩:=hu
 have hwW:c.w=true→c=.W:=fun hw=>by
  cases c<;>simp[Cls.w] at hw ⊢
  exact h5 (.inr (.inr ⟨_,_,rfl⟩))
 have hres:∀b,b≠n0+i→h b=none→upds h u b=none:=fun b hb hh=>by
  rw[upds_notin u h b fun y hy e=>by
   rcases hu3 y hy with h1|h1
   ·exact hb (e▸h1)
   ·exact h1 (e▸hh)]
  exact hh
 refine⟨o,v,u,ho,hd,rfl,Nat.le_refl _,fun hc=>⟨rfl,rfl,hu1 (fun e=>by rw[e] at hc;cases hc)⟩,hu2,(fun b q e=>absurd (.inl ⟨b,q,e⟩) h5),(fun b e=>absurd (.inr (.inl ⟨b,e⟩)) h5),(fun b s e=>absurd (.inr (.inr ⟨b,s,e⟩)) h5),fun b hb _ hh=>hres b hb hh,fun hf hlt b hb=>hres b (by simp only at hb hlt;omega) (hf b hb),fun ro w S F m a g hr hag _ hl hs hx hfr hlt Q K hK=>?_⟩;have hw:=gd_wanted hg hl;refine wpOp_of ho hw hnd ?_
 -- for 'W' the heap is the abstract one
 by_cases hW:c.w=true
 ·have hh:∀b o p,m b=some p→h b=some o→g b=some o:=fun b o p hm hb=>hag b o p (by rw[hwW hW];simp[Cls.needs]) hm hb
  obtain⟨⟨v',w',m',h1,h2,h3,h4,h5',h6⟩,_⟩:=hop w S _ m h a (EV.looks hr.glob hl) (fun b o p _ _ hb=>hb) hs (hr.under hh)
  have done:K (a.put o.dst v') w':=hK v' w' S m' (h2.mono fun k hk=>hk.imp id .inl) (fun _ h=>h) (fun _ h=> .inl h) h3 (fun hc=>by rw[hW] at hc;cases hc) (fun _=>⟨fun b _ hb=>h4 b hb,fun b hb=>by
   have:b≠n0+i:=by simp only at hb hlt;omega
   rw[h4 b this];exact hx hW b hb⟩) (fun hc=>by rw[hW] at hc;cases hc) h5' (fun hc=>by rw[hW] at hc;cases hc) (fun _=>hr.over h6 h2 (fun _ h=>h) (fun _ h=> .inl h) h3)
  rcases h1 with h1|⟨h1,rfl⟩<;>rw[h1]<;>exact done
 ·have hW':c.w=false:=by simpa using hW
  obtain⟨⟨v',w',m',h1,h2,h3,h4,h5',h6⟩,hkill⟩:=hop w S F m g a (EV.looks hr.glob hl) hag hs hr;have done:K (a.put o.dst v') w':=hK v' w' S m' h2 (fun _ h=>h) (fun _ h=> .inl h) h3 (fun _ b hb=>h4 b hb) (fun hc=>absurd hc hW) (fun _ y hy hne=>hkill y hy hne) h5' (fun _=>h6) (fun hc=>absurd hc hW);rcases h1 with h1|⟨h1,rfl⟩<;>rw[h1]<;>exact done
end
end Go.Av
