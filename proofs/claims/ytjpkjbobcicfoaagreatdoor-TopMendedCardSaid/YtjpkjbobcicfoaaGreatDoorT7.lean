/-
  Texts T2, T3, T4, T5, T6, T7 of this work, one behind the other. Conditions: none.
-/
import Derived.Test.YtjpkjbobcicfoaaGreatDoorG1
import Derived.Test.YtjpkjbobcicfoaaGreatDoorX4
set_option linter.unusedSimpArgs false
set_option linter.unusedVariables false
namespace Go.Av
open Go.Proofs
structure Pt where
 s:Sy
 node:Int
 fin:Bool
def ePt (p:Pt):List AV:=[.bool p.s.non,.int .i64 p.s.n,.int .i64 p.node,.bool p.fin]
attribute [go_sem] ePt
abbrev Nd:=Int×List Int
structure Rs where
 todo:List Pt
 word:List Int
 nodes:List Nd
def extN (nd:Int) (ns:List Nd) (pl:List Int):List Nd:=if 0≤nd then ns.modify nd.toNat (fun x=>(x.1,x.2++pl)) else ns
def hereF (w:List Int) (ns:List Nd) (p:Pt):List Nd:=extN p.node ns [(w.length:Int)]
def runF:List Pt→List Int→List Nd→Option Int×Rs
 |[],w,ns=>(none,⟨[],w,ns⟩)
 |p::t,w,ns=>if p.fin then runF t w (hereF w ns p) else if p.s.non then (some p.s.n,⟨t,w,hereF w ns p⟩) else runF t (w++[p.s.n]) (hereF w ns p)
def mkP (nd:Int) (s:Sy):Pt:=⟨s,nd,false⟩
def finP (nd:Int):Pt:=⟨⟨false,0⟩,nd,true⟩
def openF (x:Int) (right:List Sy) (r:Rs):Rs:=⟨right.map (mkP r.nodes.length)++finP r.nodes.length::r.todo,r.word,r.nodes++[(x,[])]⟩
def okP (g:Gr) (x n:Int):Option Pr:=if 0≤x then (g.prods[x.toNat]?).bind fun p=>if p.left=n then some p else none else none
def repM (g:Gr):List Int→Rs→Int×Rs
 |[],r=>match runF r.todo r.word r.nodes with
  |(none,r')=>(0,r')
  |(some _,r')=>(3,r')
 |x::l,r=>match runF r.todo r.word r.nodes with
  |(none,r')=>(2,r')
  |(some n,r')=>match okP g x n with
   |some p=>repM g l (openF x p.right r')
   |none=>(2,r')
def strip:List Sy→List Int→List Sy×List Int
 |[],w=>([],w)
 |s::r,w=>if s.non then (s::r,w) else strip r (w++[s.n])
def repF (g:Gr):List Int→List Sy→List Int→Int×List Int
 |[],r,w=>match strip r w with
  |([],w')=>(0,w')
  |(_::_,_)=>(3,[])
 |x::l,r,w=>match strip r w with
  |([],_)=>(2,[])
  |(s::r',w')=>match okP g x s.n with
   |some p=>repF g l (p.right++r') w'
   |none=>(2,[])
def rowOf:List Pt→List Sy
 |[]=>[]
 |p::t=>if p.fin then rowOf t else p.s::rowOf t
theorem rowOf_app:∀(a b:List Pt),rowOf (a++b)=rowOf a++rowOf b
 |[],b=>rfl
 |p::a,b=>by
  rw[List.cons_append,rowOf,rowOf,rowOf_app a b];split<;>rfl
theorem rowOf_mk (nd:Int):∀l:List Sy,rowOf (l.map (mkP nd))=l
 |[]=>rfl
 |s::l=>by
  rw[List.map_cons,rowOf,rowOf_mk nd l];rfl
theorem run_strip:∀(t:List Pt) (w:List Int) (ns:List Nd),
  strip (rowOf t) w=(match (runF t w ns).1 with|none=>[]|some n=>⟨true,n⟩::rowOf (runF t w ns).2.todo,(runF t w ns).2.word)∧((runF t w ns).1=none→(runF t w ns).2.todo=[])
 |[],w,ns=>by simp[rowOf,strip,runF]
 |⟨⟨sn,n⟩,nd,fin⟩::t,w,ns=>by
  rw[rowOf,runF]
  cases fin with
  |true=>simp only[if_true];exact run_strip t w _
  |false=>
   simp only[Bool.false_eq_true,if_false];rw[strip]
   cases sn with
   |true=>simp
   |false=>simp only[Bool.false_eq_true,if_false];exact run_strip t _ _
theorem rep_same {g:Gr}:∀(l:List Int) (r:Rs),(repM g l r).1=(repF g l (rowOf r.todo) r.word).1∧(repF g l (rowOf r.todo) r.word).2=if (repM g l r).1=0 then (repM g l r).2.word else []
 |[],r=>by
  obtain⟨h,_⟩:=run_strip r.todo r.word r.nodes;rw[repM,repF,h];rcases hr:runF r.todo r.word r.nodes with ⟨o,r'⟩
  cases o<;>simp
 |x::l,r=>by
  obtain⟨h,_⟩:=run_strip r.todo r.word r.nodes;rw[repM,repF,h];rcases hr:runF r.todo r.word r.nodes with ⟨o,r'⟩
  cases o with
  |none=>simp
  |some n=>
   simp only
   cases hp:okP g x n with
   |none=>simp
   |some p=>
    simp only;have:=rep_same (g:=g) l (openF x p.right r')
    have e:rowOf (openF x p.right r').todo=p.right++rowOf r'.todo:=by
     rw[openF,rowOf_app,rowOf_mk];rfl
    rw[e] at this;exact this
theorem extN_len {nd:Int} {ns:List Nd} {pl:List Int}:(extN nd ns pl).length=ns.length:=by
 unfold extN;split<;>simp
theorem strip_non:∀{r:List Sy} {w:List Int} {s:Sy} {r':List Sy} {w':List Int},strip r w=(s::r',w')→s.non=true
 |[],w,s,r',w',h=>by cases h
 |x::r,w,s,r',w',h=>by
  rw[strip] at h;split at h
  ·rename_i hx;cases h;exact hx
  ·exact strip_non h
theorem okP_some {g:Gr} {x n:Int} {p:Pr} (h:okP g x n=some p):0≤x∧g.prods[x.toNat]?=some p∧p.left=n:=by
 unfold okP at h;split at h
 ·rename_i hx
  cases hq:g.prods[x.toNat]? with
  |none=>rw[hq] at h;cases h
  |some q=>
   rw[hq] at h;simp only[Option.bind_some] at h;split at h
   ·rename_i e;cases h;exact⟨hx,rfl,e⟩
   ·cases h
 ·cases h
theorem strip_der {g:Gr} {W:List Int}:∀{r:List Sy} {w:List Int} {r':List Sy} {w':List Int},strip r w=(r',w')→(∃u,W=w'++u)→Der g W r' w'.length W.length→(∃u,W=w++u)∧Der g W r w.length W.length
 |[],w,r',w',h,hu,hd=>by cases h;exact⟨hu,hd⟩
 |⟨sn,n⟩::r,w,r',w',h,hu,hd=>by
  rw[strip] at h
  cases sn with
  |true=>
   simp only[if_true] at h;cases h;exact⟨hu,hd⟩
  |false=>
   simp only[Bool.false_eq_true,if_false] at h;obtain⟨⟨u,e⟩,h'⟩:=strip_der h hu hd;refine⟨⟨n::u,by rw[e];simp⟩, ?_⟩;rw[List.length_append] at h';exact .term (by rw[e];simp) h'
theorem rep_der {g:Gr}:∀(l:List Int) (r:List Sy) (w W:List Int),repF g l r w=(0,W)→(∃u,W=w++u)∧Der g W r w.length W.length
 |[],r,w,W,h=>by
  rw[repF] at h;rcases hs:strip r w with ⟨r',w'⟩
  rw[hs] at h
  cases r' with
  |cons s r'=>simp at h
  |nil=>
   simp only[Prod.mk.injEq,true_and] at h;subst h;exact strip_der hs ⟨[],by simp⟩ (.nil (Nat.le_refl _))
 |x::l,r,w,W,h=>by
  rw[repF] at h;rcases hs:strip r w with ⟨r',w'⟩
  rw[hs] at h
  cases r' with
  |nil=>simp at h
  |cons s r'=>
   obtain⟨sn,n⟩:=s;have hsn:sn=true:=strip_non hs;subst hsn;simp only at h
   cases hp:okP g x n with
   |none=>rw[hp] at h;simp at h
   |some p=>
    rw[hp] at h;simp only at h;obtain⟨hu,hd⟩:=rep_der l _ w' W h;obtain⟨b,d1,d2⟩:=hd.split p.right rfl;obtain⟨_,hm,rfl⟩:=okP_some hp;exact strip_der hs hu (.non (List.mem_of_getElem? hm) d1 d2)
def startP (g:Gr):Pt:=mkP (-1) ⟨true,g.start⟩
def replayM (g:Gr) (l:List Int):Int×Rs:=if right g then (if 2000<l.length then (5,⟨[],[],[]⟩) else repM g l ⟨[startP g],[],[]⟩) else (1,⟨[],[],[]⟩)
def replayL (g:Gr) (l:List Int):Int×List Int:=if right g then (if 2000<l.length then (5,[]) else repF g l [⟨true,g.start⟩] []) else (1,[])
theorem replay_same (g:Gr) (l:List Int):(replayM g l).1=(replayL g l).1∧(replayL g l).2=if (replayM g l).1=0 then (replayM g l).2.word else []:=by
 unfold replayM replayL;split
 ·split
  ·simp
  ·exact rep_same l ⟨[startP g],[],[]⟩
 ·simp
end Go.Av
namespace Go.Av
open Go.Proofs
set_option maxRecDepth 100000
inductive Ovr (g:Gr) (w:List Int):Int→Nat→Prop
 |eps {p:Pr} {a:Nat} (hp:p∈g.prods) (ha:a=w.length):Ovr g w p.left a
 |all {p:Pr} {l m:List Sy} {a:Nat} (hp:p∈g.prods) (hr:p.right=l++m) (hl:l≠[]) (hd:Der g w l a w.length):Ovr g w p.left a
 |non {p:Pr} {l m:List Sy} {n:Int} {a b:Nat} (hp:p∈g.prods) (hr:p.right=l++⟨true,n⟩::m) (hd:Der g w l a b) (ho:Ovr g w n b):Ovr g w p.left a
theorem Ovr.le {g:Gr} {w:List Int} {n:Int} {a:Nat} (h:Ovr g w n a):a≤w.length:=by
 induction h with
 |eps hp ha=>omega
 |all hp hr hl hd=>exact hd.le.1
 |non hp hr hd ho ih=>have:=hd.le;omega
theorem Ovr.prod {g:Gr} {w:List Int} {n:Int} {a:Nat} (h:Ovr g w n a):∃p∈g.prods,p.left=n:=by
 cases h with
 |eps hp ha=>exact⟨_,hp,rfl⟩
 |all hp hr hl hd=>exact⟨_,hp,rfl⟩
 |non hp hr hd ho=>exact⟨_,hp,rfl⟩
theorem Der.up {g:Gr} {w:List Int} {x:Nat} (hx:x≤w.length) {l:List Sy} {a c:Nat} (h:Der g (w.drop x) l a c):Der g w l (x+a) (x+c):=by
 induction h with
 |nil h=>exact .nil (by rw[List.length_drop] at h;omega)
 |term h hl ih=>exact .term (by rw[List.getElem?_drop] at h;exact h) ih
 |non hp hr hl ih1 ih2=>exact .non hp ih1 ih2
theorem Der.down {g:Gr} {w:List Int} {x:Nat} {l:List Sy} {y z:Nat} (h:Der g w l y z):x≤y→Der g (w.drop x) l (y - x) (z - x):=by
 induction h with
 |nil h=>intro hx;exact .nil (by rw[List.length_drop];omega)
 | @term t l a c h hl ih=>
   intro hx;refine .term (by rw[List.getElem?_drop,show x+(a - x)=a by omega];exact h) ?_;have:=ih (by omega);rwa[show a+1 - x=a - x+1 by omega] at this
 |non hp hr hl ih1 ih2=>
  intro hx;have:=hr.le;exact .non hp (ih1 hx) (ih2 (by omega))
theorem Ovr.up {g:Gr} {w:List Int} {x:Nat} (hx:x≤w.length) {n:Int} {a:Nat} (h:Ovr g (w.drop x) n a):Ovr g w n (x+a):=by
 induction h with
 |eps hp ha=>exact .eps hp (by rw[ha,List.length_drop];omega)
 |all hp hr hl hd=>
  have:=hd.up hx;rw[List.length_drop,show x+(w.length - x)=w.length by omega] at this;exact .all hp hr hl this
 |non hp hr hd ho ih=>exact .non hp hr (hd.up hx) ih
theorem Ovr.down {g:Gr} {w:List Int} {x:Nat} {n:Int} {y:Nat} (h:Ovr g w n y):x≤y→Ovr g (w.drop x) n (y - x):=by
 induction h with
 |eps hp ha=>intro hx;exact .eps hp (by rw[ha,List.length_drop])
 |all hp hr hl hd=>
  intro hx;have:=hd.down hx;rw[←List.length_drop] at this;exact .all hp hr hl this
 |non hp hr hd ho ih=>
  intro hx;have:=hd.le;exact .non hp hr (hd.down hx) (ih (by omega))
def Rc (g:Gr) (w:List Int) (f:Nat→Nat):Prop:=RwOk f∧(∀n,n<24→∀c,(f n).testBit c=true↔Der g w [⟨true,(n:Int)⟩] 0 c)∧∀n,(f 24).testBit n=true↔Ovr g w (n:Int) 0
theorem Rc.uniq {g:Gr} {w:List Int} {f f':Nat→Nat} (h:Rc g w f) (h':Rc g w f'):f=f':=by
 funext i;by_cases h1:i<24
 ·refine Nat.eq_of_testBit_eq fun c=>Bool.eq_iff_iff.2 ?_
  rw[h.2.1 i h1 c,h'.2.1 i h1 c]
 ·by_cases h2:i=24
  ·subst h2;refine Nat.eq_of_testBit_eq fun c=>Bool.eq_iff_iff.2 ?_
   rw[h.2.2 c,h'.2.2 c]
  ·rw[h.1.2 i (by omega),h'.1.2 i (by omega)]
def RcB (g:Gr) (w:List Int) (B:List (Nat→Nat)):Prop:=B.length=w.length∧∀a,a<w.length→Rc g (w.drop (a+1)) (rowAt B a)
def SndR (g:Gr) (w:List Int) (f:Nat→Nat):Prop:=(∀n,n<24→∀c,(f n).testBit c=true→Der g w [⟨true,(n:Int)⟩] 0 c)∧∀n,(f 24).testBit n=true→Ovr g w (n:Int) 0
theorem row_zero {f:Nat→Nat} {B:List (Nat→Nat)}:rowAt (f::B) 0=f:=rfl
theorem row_succ {f:Nat→Nat} {B:List (Nat→Nat)} {a:Nat}:rowAt (f::B) (a+1)=rowAt B a:=rfl
theorem rows_sound {g:Gr} {w:List Int} {f:Nat→Nat} {B:List (Nat→Nat)} (hB:RcB g w B) (hf:SndR g w f) {a:Nat} (ha:a<(f::B).length):
  (∀n,n<24→∀c,(rowAt (f::B) a n).testBit c=true→Der g w [⟨true,(n:Int)⟩] a (a+c))∧∀n,(rowAt (f::B) a 24).testBit n=true→Ovr g w (n:Int) a:=by
 cases a with
 |zero=>
  rw[row_zero];exact⟨fun n hn c hc=>by rw[Nat.zero_add];exact hf.1 n hn c hc,hf.2⟩
 |succ a=>
  rw[row_succ];rw[List.length_cons,hB.1] at ha;obtain⟨_,h1,h2⟩:=hB.2 a (by omega);refine⟨fun n hn c hc=>?_,fun n hn=>?_⟩
  ·have:=((h1 n hn c).1 hc).up (x:=a+1) (by omega);rwa[Nat.add_zero] at this
  ·have:=((h2 n).1 hn).up (x:=a+1) (by omega);rwa[Nat.add_zero] at this
theorem rows_comp {g:Gr} {w:List Int} {f:Nat→Nat} {B:List (Nat→Nat)} (hB:RcB g w B) {a:Nat} (ha:a<w.length):
  (∀n:Nat,n<24→∀c,Der g w [⟨true,(n:Int)⟩] (a+1) c→(rowAt (f::B) (a+1) n).testBit (c - (a+1))=true)∧∀n:Nat,Ovr g w (n:Int) (a+1)→(rowAt (f::B) (a+1) 24).testBit n=true:=by
 rw[row_succ];obtain⟨_,h1,h2⟩:=hB.2 a ha;refine⟨fun n hn c hc=>?_,fun n hn=>?_⟩
 ·refine(h1 n hn _).2 ?_;have:=hc.down (x:=a+1) (Nat.le_refl _);rwa[Nat.sub_self] at this
 ·refine(h2 n).2 ?_;have:=hn.down (x:=a+1) (Nat.le_refl _);rwa[Nat.sub_self] at this
def SyB (l:List Sy):Prop:=∀s∈l,s.non=true→0≤s.n∧s.n<24
theorem step_sound {g:Gr} {w:List Int} (hw:w.length≤30) {f:Nat→Nat} {B:List (Nat→Nat)} (hB:RcB g w B) (hf:SndR g w f) {s:Sy} (hs:s.non=true→0≤s.n∧s.n<24) {l:List Sy} {k:Nat} (hk:∀c,k.testBit c=true→Der g w l 0 c) (hk32:k<2^32):
  ∀c,(stepF s k w (f::B)).testBit c=true→Der g w (l++[s]) 0 c:=by
 intro c hc;have hlt:stepF s k w (f::B)<2^32:=stepF_lt (by rw[List.length_cons,hB.1];omega)
 have hc32:c<32:=by
  by_cases h:c<32
  ·exact h
  ·rw[Nat.testBit_lt_two_pow (Nat.lt_of_lt_of_le hlt (Nat.pow_le_pow_right (by decide) (by omega)))] at hc;cases hc
 obtain⟨a,h1,h2,h3⟩:=(stepN_bit hc32 _).1 hc;refine(hk a h2).append ?_;rcases h3 with ⟨hn,hac,hb⟩|⟨hn,hwa,e⟩
 ·obtain⟨q1,q2⟩:=hs hn;have:=(rows_sound hB hf h1).1 s.n.toNat (by omega) _ hb;rw[show a+(c - a)=c by omega,show((s.n.toNat:Nat):Int)=s.n by omega] at this;obtain⟨b,n⟩:=s;simp only at hn;subst hn;exact this
 ·obtain⟨b,n⟩:=s;simp only at hn;subst hn;subst e;have:=(List.getElem?_eq_some_iff.1 hwa).1;exact .term hwa (.nil (by omega))
theorem comes_sound {g:Gr} {w:List Int} (hw:w.length≤30) {f:Nat→Nat} {B:List (Nat→Nat)} (hB:RcB g w B) (hf:SndR g w f) {p:Pr} (hp:p∈g.prods) (hs:SyB p.right):
  ∀(r l:List Sy) (k:Nat) (m:Bool),p.right=l++r→(∀c,k.testBit c=true→Der g w l 0 c)→k<2^32→(m=true→Ovr g w p.left 0)→
  (∀c,(comesL w (f::B) r k m).1.testBit c=true→Der g w p.right 0 c)∧((comesL w (f::B) r k m).2=true→Ovr g w p.left 0)
 |[],l,k,m,he,hk,hk32,hm=>by
  rw[List.append_nil] at he;rw[comesL,he];exact⟨hk,hm⟩
 |s::r,l,k,m,he,hk,hk32,hm=>by
  have hss:=hs s (by rw[he];simp);have h1:=step_sound hw hB hf hss hk hk32;have hrl:(f::B).length≤31:=by rw[List.length_cons,hB.1];omega
  refine comes_sound hw hB hf hp hs r (l++[s]) _ _ (by rw[he];simp) h1 (stepF_lt hrl) fun hm'=>?_
  rw[Bool.or_eq_true,Bool.or_eq_true] at hm';rcases hm' with (hm'|hm')|hm'
  ·exact hm hm'
  ·rw[overB,Bool.and_eq_true,List.any_eq_true] at hm';obtain⟨hn,a,ha,hab⟩:=hm';rw[Bool.and_eq_true] at hab;obtain⟨q1,q2⟩:=hss hn;have ho:=(rows_sound hB hf (List.mem_range.1 ha)).2 s.n.toNat hab.2;rw[show((s.n.toNat:Nat):Int)=s.n by omega] at ho;obtain⟨b,n⟩:=s;simp only at hn;subst hn;exact .non hp he (hk a hab.1) ho
  ·exact .all hp (l:=l++[s]) (m:=r) (by rw[he];simp) (by simp) (h1 _ hm')
theorem put_sound {g:Gr} {w:List Int} (hw:w.length≤30) {f:Nat→Nat} {B:List (Nat→Nat)} (hB:RcB g w B) (hf:SndR g w f) {p:Pr} (hp:p∈g.prods) (hl:0≤p.left∧p.left<24) (hs:SyB p.right):SndR g w (putR f p.left.toNat (comesF w (f::B) p)):=by
 have hlt:((p.left.toNat:Nat):Int)=p.left:=by omega
 obtain⟨h1,h2⟩:=comes_sound hw hB hf hp hs p.right [] 1 (decide (w.length=0)) rfl (fun c hc=>by
  have h2:(2^0).testBit c=true:=hc;rw[Nat.testBit_two_pow] at h2;have:0=c:=by simpa using h2
  subst this
  exact .nil (by omega)) (by decide) (fun hm=> .eps hp (by simpa using hm:w.length=0).symm)
 have h1':∀c,(comesF w (f::B) p).1.testBit c=true→Der g w [⟨true,p.left⟩] 0 c:=fun c hc=>by
  have:=h1 c hc;exact .non hp this (.nil this.le.2)
 refine⟨fun n hn c hc=>?_,fun n hc=>?_⟩
 ·unfold putR at hc;rw[if_neg (by omega)] at hc;split at hc
  ·rename_i e
   rw[Nat.testBit_or,Bool.or_eq_true] at hc;rcases hc with hc|hc
   ·rw[e];exact hf.1 _ (by omega) c hc
   ·rw[e,hlt];exact h1' c hc
  ·exact hf.1 n hn c hc
 ·unfold putR at hc;rw[if_pos rfl] at hc;split at hc
  ·rename_i e
   rw[Nat.testBit_or,Bool.or_eq_true] at hc;rcases hc with hc|hc
   ·exact hf.2 n hc
   ·rw[Nat.testBit_two_pow] at hc;have:p.left.toNat=n:=by simpa using hc
    rw[←this,hlt];exact h2 e
  ·exact hf.2 n hc
end Go.Av
namespace Go.Av
open Go.Proofs
set_option maxRecDepth 100000
theorem comesL_app {w:List Int} {rows:List (Nat→Nat)} {m:List Sy}:∀(l:List Sy) (k:Nat) (mo:Bool),comesL w rows (l++m) k mo=comesL w rows m (comesL w rows l k mo).1 (comesL w rows l k mo).2
 |[],k,mo=>rfl
 |s::l,k,mo=>by
  rw[List.cons_append,comesL,comesL];exact comesL_app l _ _
theorem comesL_more {w:List Int} {rows:List (Nat→Nat)}:∀(l:List Sy) (k:Nat),(comesL w rows l k true).2=true
 |[],k=>rfl
 |s::l,k=>by
  rw[comesL];exact comesL_more l _
theorem comesL_end {w:List Int} {rows:List (Nat→Nat)}:∀(l:List Sy) (k:Nat) (mo:Bool),l≠[]→(comesL w rows l k mo).1.testBit w.length=true→(comesL w rows l k mo).2=true
 |[],k,mo,h,_=>absurd rfl h
 |[s],k,mo,_,hb=>by
  rw[comesL,comesL] at hb ⊢;simp only at hb ⊢;rw[hb,Bool.or_true]
 |s::s'::l,k,mo,_,hb=>by
  rw[comesL] at hb ⊢;exact comesL_end (s'::l) _ _ (by simp) hb
theorem right_syB {g:Gr} (hr:right g=true) {p:Pr} (hp:p∈g.prods):SyB p.right:=by
 obtain⟨⟨hn1,hn2⟩,_,_,hp60,h5⟩:=right_in hr;intro s hs hn;have:=(h5 p hp).2.2 s hs;rw[if_pos hn] at this;omega
theorem right_left {g:Gr} (hr:right g=true) {p:Pr} (hp:p∈g.prods):0≤p.left∧p.left<24:=by
 obtain⟨⟨hn1,hn2⟩,_,_,hp60,h5⟩:=right_in hr;have:=(h5 p hp).1;omega
theorem closed_bits {w:List Int} {f:Nat→Nat} {B:List (Nat→Nat)} {p:Pr} (hl:0≤p.left∧p.left<24) (h:putR f p.left.toNat (comesF w (f::B) p)=f):
  (∀c,(comesF w (f::B) p).1.testBit c=true→(f p.left.toNat).testBit c=true)∧((comesF w (f::B) p).2=true→(f 24).testBit p.left.toNat=true):=by
 refine⟨fun c hc=>?_,fun hm=>?_⟩
 ·have h1:=congrFun h p.left.toNat;unfold putR at h1;rw[if_neg (by omega),if_pos rfl] at h1;rw[←h1,Nat.testBit_or,hc,Bool.or_true]
 ·have h1:=congrFun h 24;unfold putR at h1;rw[if_pos rfl,if_pos hm] at h1;rw[←h1,Nat.testBit_or,Nat.testBit_two_pow];simp
section
variable {g:Gr} (hr:right g=true) {w:List Int} (hw:w.length≤30) {f:Nat→Nat} {B:List (Nat→Nat)} (hB:RcB g w B) (hcl:∀p,p∈g.prods→putR f p.left.toNat (comesF w (f::B) p)=f)
include hr hw hB hcl
theorem comp_der {l:List Sy} {a c:Nat} (h:Der g w l a c):∀(k:Nat) (mo:Bool),k.testBit a=true→(comesL w (f::B) l k mo).1.testBit c=true:=by
 have hlen:(f::B).length=w.length+1:=by rw[List.length_cons,hB.1]
 induction h with
 |nil h=>intro k mo hk;exact hk
 | @term t l a c h hl ih=>
   intro k mo hk;rw[comesL];refine ih _ _ ?_;have hal:=(List.getElem?_eq_some_iff.1 h).1;exact(stepN_bit (show a+1<32 by omega) _).2 ⟨a,by omega,hk,.inr ⟨rfl,h,rfl⟩⟩
 | @non p l a b c hp hrr hl ih1 ih2=>
   intro k mo hk;rw[comesL];refine ih2 _ _ ?_;obtain⟨q1,q2⟩:=right_left hr hp;have hab:=hrr.le;refine(stepN_bit (show b<32 by omega) _).2 ⟨a,by omega,hk,.inl ⟨rfl,hab.1, ?_⟩⟩;show(rowAt (f::B) a p.left.toNat).testBit (b - a)=true
   cases a with
   |zero=>
    rw[row_zero];exact(closed_bits (right_left hr hp) (hcl p hp)).1 _ (ih1 1 _ rfl)
   |succ a=>
    refine(rows_comp hB (by omega)).1 p.left.toNat (by omega) b ?_;rw[show((p.left.toNat:Nat):Int)=p.left by omega];exact .non hp hrr (.nil hab.2)
theorem comp_ovr {n:Int} {a:Nat} (h:Ovr g w n a):(rowAt (f::B) a 24).testBit n.toNat=true:=by
 have hlen:(f::B).length=w.length+1:=by rw[List.length_cons,hB.1]
 have late:∀{n:Int} {a:Nat},Ovr g w n (a+1)→(rowAt (f::B) (a+1) 24).testBit n.toNat=true:=fun {n a} h=>by
  obtain⟨p,hp,rfl⟩:=h.prod;obtain⟨q1,q2⟩:=right_left hr hp;refine(rows_comp hB (by have:=h.le;omega)).2 p.left.toNat ?_;rw[show((p.left.toNat:Nat):Int)=p.left by omega];exact h
 induction h with
 | @eps p a hp ha=>
   cases a with
   |succ a=>exact late (.eps hp ha)
   |zero=>
    refine(closed_bits (right_left hr hp) (hcl p hp)).2 ?_;rw[comesF,show decide (w.length=0)=true from decide_eq_true ha.symm];exact comesL_more _ _
 | @all p l m a hp hrr hl hd=>
   cases a with
   |succ a=>exact late (.all hp hrr hl hd)
   |zero=>
    refine(closed_bits (right_left hr hp) (hcl p hp)).2 ?_;rw[comesF,hrr,comesL_app,comesL_end l _ _ hl (comp_der hr hw hB hcl hd 1 _ rfl)];exact comesL_more _ _
 | @non p l m n a b hp hrr hd ho ih=>
   cases a with
   |succ a=>exact late (.non hp hrr hd ho)
   |zero=>
    refine(closed_bits (right_left hr hp) (hcl p hp)).2 ?_;rw[comesF,hrr,comesL_app,comesL];have hk:=comp_der hr hw hB hcl hd 1 (decide (w.length=0)) rfl
    have hov:overB ⟨true,n⟩ (comesL w (f::B) l 1 (decide (w.length=0))).1 (f::B)=true:=by
     rw[overB,Bool.true_and,List.any_eq_true];exact⟨b,List.mem_range.2 (by have:=hd.le;omega),by rw[hk,Bool.true_and];exact ih⟩
    rw[hov,Bool.or_true,Bool.true_or];exact comesL_more _ _
end
theorem row_rc {g:Gr} (hr:right g=true) {w:List Int} (hw:w.length≤30) {f:Nat→Nat} {B:List (Nat→Nat)} (hB:RcB g w B) (hcl:∀p,p∈g.prods→putR f p.left.toNat (comesF w (f::B) p)=f) (hok:RwOk f) (hs:SndR g w f):Rc g w f:=by
 refine⟨hok,fun n hn c=>⟨hs.1 n hn c,fun hd=>?_⟩,fun n=>⟨hs.2 n,fun ho=>?_⟩⟩
 ·have h1:=comp_der hr hw hB hcl hd 1 false rfl;rw[comesL,comesL] at h1;have hc:=hd.le.2;obtain⟨a,h2,h3,h4⟩:=(stepN_bit (show c<32 by omega) _).1 h1;have h0:(2^0).testBit a=true:=h3;rw[Nat.testBit_two_pow] at h0;have:0=a:=by simpa using h0
  subst this;rcases h4 with ⟨_,_,h5⟩|⟨h5,_⟩
  ·exact h5
  ·cases h5
 ·have:=comp_ovr hr hw hB hcl ho;exact this
theorem fz79' (g:Gr) (hg:g.Small) (hr:right g=true) (w:List Int) (hw:w.length≤30) (B:List (Nat→Nat)) (hB:RcB g w B):∃f,PF pg Tq 79 [.agg (eGr g),.ro (w.map eIn),.ro (B.map eRw)] (.agg (eRw f))∧Rc g w f:=by
 have hrw:RwIn B:=fun j i=>by
  by_cases hj:j<w.length
  ·exact(hB.2 j hj).1.1 i
  ·have:B[j]?=none:=List.getElem?_eq_none (by rw[hB.1];omega);unfold rowAt;rw[List.getD_eq_getElem?_getD,this];exact(by decide:0<2^32)
 obtain⟨f,h1,h2,h3,h4⟩:=fz79 g hg hr w hw B (by rw[hB.1];exact hw) hrw (SndR g w) ⟨fun n hn c hc=>by simp at hc,fun n hc=>by simp at hc⟩ fun f p hp hf=>put_sound hw hB hf hp (right_left hr hp) (right_syB hr hp)
 exact⟨f,h1,row_rc hr hw hB h4 h2 h3⟩
end Go.Av
namespace Go.Av
open Go.Proofs
set_option maxRecDepth 100000
def RowsC (g:Gr) (w:List Int) (l:List (Nat→Nat)):Prop:=l.length=w.length+1∧∀a,a<l.length→Rc g (w.drop a) (rowAt l a)
theorem RowsC.uniq {g:Gr} {w:List Int} {l l':List (Nat→Nat)} (h:RowsC g w l) (h':RowsC g w l'):l=l':=by
 refine List.ext_getElem? fun a=>?_
 by_cases ha:a<l.length
 ·rw[row_get ha,row_get (by rw[h'.1,←h.1];exact ha),(h.2 a ha).uniq (h'.2 a (by rw[h'.1,←h.1];exact ha))]
 ·rw[List.getElem?_eq_none (by omega),List.getElem?_eq_none (by rw[h'.1,←h.1];omega)]
theorem fit_right {g:Gr} {w:List Int} (h:fitG g w=true):right g=true:=by
 rw[fitG,Bool.and_eq_true] at h;cases hr:right g
 ·have h1:=h.1;rw[checkL,hr] at h1;cases h1
 ·rfl
theorem fit_len {g:Gr} {w:List Int} (h:fitG g w=true):w.length≤24:=by
 rw[fitG,fitsW,rightW,Bool.and_eq_true,Bool.and_eq_true,Bool.and_eq_true] at h;have:=of_decide_eq_true h.2.1.1;omega
set_option maxHeartbeats 8000000 in
theorem fz102 (g:Gr) (hg:g.Small) (w:List Int) (hwl:w.length<2^40):∃l,PF pg Tq 102 [.agg (eGr g),.ro (w.map eIn)] (.ro (l.map eRw))∧(fitG g w=false→l=[])∧(fitG g w=true→RowsC g w l):=by
 have fin:FH pg Tq 102 [.agg (eGr g),.ro (w.map eIn)] h0 0 fun r h n=>∃l,SlL eRw 25 h 0 n r l∧(fitG g w=false→l=[])∧(fitG g w=true→RowsC g w l):=by
  refine FH.of (N:=38) (rs:=#[.tmp 4]) Tryz.func102 rfl rfl (of_decide_eq_true rfl) rfl (by decide) ?_;refine W.rseq (k:=2) rfl fun K hK=>?_;simp only[go_sem];refine hK _ _ _ ?_;clear hK K;refine W.seq ?_;refine W.rseq (k:=7) rfl fun K hK=>?_;simp only[go_sem];refine VCall.frz 6 (fz26 g hg) rfl ?_;try simp only[go_sem];refine hK _ _ _ ?_;clear hK K;refine W.rseq (k:=8) rfl fun K hK=>?_
  by_cases hc:(checkL g).2=0
  ·simp only[go_sem,decide_eq_true hc];refine VCall.frz 6 (fz28 g w hwl) rfl ?_;cases hf:fitsW g w
   ·simp only[go_sem];refine hK _ _ _ ?_
    first|clear hK K|clear hK|skip
    refine W.condT (by simp only[go_sem]) ?_;refine W.rseq (k:=1) rfl fun K hK=>?_;simp only[go_sem];refine hK _ _ _ ?_;clear hK K;refine W.ret ?_;simp only[go_sem]
    have hfg:fitG g w=false:=by rw[fitG,hf,Bool.and_false]
    exact⟨[],.inl ⟨rfl,rfl⟩,fun _=>rfl,fun e=>by rw[hfg] at e;cases e⟩
   ·simp only[go_sem];refine hK _ _ _ ?_
    first|clear hK K|clear hK|skip
    refine W.condF (by simp only[go_sem]) ?_;refine W.skip ?_;simp only[go_sem];have hfg:fitG g w=true:=by rw[fitG,hf,decide_eq_true hc];rfl
    have hr:=fit_right hfg;have hw:=fit_len hfg;clear hc hf;refine W.rseq (k:=1) rfl fun K hK=>?_;simp only[go_sem];refine hK _ _ _ ?_;clear hK K;refine W.seqk fun K hK=>?_;refine W.rseq (k:=3) rfl fun K hK=>?_;simp only[go_sem];refine hK _ _ _ ?_;clear hK K
    have nx0:∀(t':Fr) (h':Heap) (n':Nat) (l:List (Nat→Nat)),SlL eRw 25 h' 1 n' (t' 7) l→RowsC g w l→K t' h' n':=by
     intro t' h' n' l e1 e2;refine hK _ _ _ ?_;clear hK K;refine W.rseq (k:=2) rfl fun K hK=>?_;simp only[go_sem];refine hK _ _ _ ?_;clear hK K;refine W.ret ?_;simp only[go_sem]
     exact⟨l,e1.next rfl (fun x hx hx'=>rfl) (by omega) (by omega),(fun e=>by rw[hfg] at e;cases e),fun _=>e2⟩
    clear hK
    refine W.block (W.while (fun m t h n=>∃(j:Nat) (L:List (Nat→Nat)),m=j∧j≤w.length+1∧0<n∧L.length=w.length+1 - j∧(∀a,a<L.length→Rc g (w.drop (j+a)) (rowAt L a))∧h 0=some (.cells [eGr g])∧SlL eRw 25 h 1 n (t 7) L∧(t 1=.ro (w.map eIn)∧t 2=.ptr 0 0 0)∧t 8=.int .i64 ((j:Int) - 1)) (w.length+1)
     ⟨w.length+1,[],rfl,Nat.le_refl _,by omega,by simp,fun a ha=>by simp at ha,by simp only[go_sem],.inl ⟨rfl,rfl⟩,⟨rfl,rfl⟩,by simp only[go_sem];congr 1;omega⟩ fun m t h n ⟨j,L,i1,i2,i3,i4,i5,i6,i7,i8,i9⟩=>?_)
    obtain⟨a1,a2⟩:=i8;refine W.seq ?_;refine W.rseq (k:=2) rfl fun K hK=>?_;simp only[go_sem,i9];refine hK _ _ _ ?_;clear hK K
    cases j with
    |zero=>
     refine W.condF (by simp only[go_sem];rfl) ?_;refine W.exit ?_;simp only[go_sem];refine nx0 _ _ _ L (i7.next rfl (fun x hx hx'=>rfl) (by omega) (Nat.le_refl _)) ⟨by rw[i4];rfl,fun a ha=>?_⟩;have:=i5 a ha;rwa[Nat.zero_add] at this
    |succ i=>
     have e9:t 8=.int .i64 (i:Int):=by rw[i9];congr 1;omega
     clear i9;refine W.condT (by simp only[go_sem];exact congrArg (fun b=>some (AV.bool b)) (decide_eq_true (by omega))) ?_;refine W.skip ?_;simp only[go_sem];have hi:i≤w.length:=by omega
     have hRB:RcB g (w.drop i) L:=by
      refine⟨by rw[i4,List.length_drop];omega,fun a ha=>?_⟩;rw[List.drop_drop,show i+(a+1)=i+1+a by omega];exact i5 a (by rw[i4];rw[List.length_drop] at ha;omega)
     obtain⟨f,h77,hrc⟩:=fz79' g hg hr (w.drop i) (by rw[List.length_drop];omega) L hRB;have z0:∀j,¬0=n+j:=fun j=>by omega
     have l0:∀j,(0<n+j)=True:=fun j=>eq_true (by omega)
     refine W.seqk fun K hK=>?_
     have nx:∀(t':Fr) (h':Heap) (n':Nat),0<n'→h' 0=some (.cells [eGr g])→SlL eRw 25 h' 1 n' (t' 7) (f::L)→(t' 1=.ro (w.map eIn)∧t' 2=.ptr 0 0 0)→t' 8=.int .i64 (i:Int)→K t' h' n':=by
      intro t' h' n' e1 e2 e3 e4 e5;refine hK _ _ _ ?_;clear hK K;refine W.region (k:=3) rfl ?_;simp only[go_sem,e5];refine⟨i,by omega,i,f::L,rfl,by omega,by omega,by rw[List.length_cons,i4];omega,fun a ha=>?_,e2,e3.next rfl (fun x hx hx'=>rfl) (by omega) (Nat.le_refl _),e4, ?_⟩
      ·cases a with
       |zero=>exact hrc
       |succ a=>
        rw[row_succ,show i+(a+1)=i+1+a by omega];rw[List.length_cons] at ha;exact i5 a (by omega)
      ·rw[wrap64 (by omega) (by omega)]
     clear hK;have hfz:rf true 4 h (t 7)=some (.ro (L.map eRw)):=i7.frz (d:=2) fun x _=>rfs_rw
     have hLl:L.length≤30:=by omega
     refine W.block ?_;refine W.draw (k:=10) rfl ?_;simp only[go_sem,a1,a2,e9,i6,l0,z0,List.length_map,cut_map,len_map (e:=eIn) (sz:=1) (fun x=>rfl),show(i:Int)≤(w.length:Int) by omega,hi];refine VCall.frzq (as':=[.agg (eGr g),.ro ((w.drop i).map eIn),.ro (L.map eRw)]) 5 ?_ h77 ?_
     ·simp only[rfs,List.mapM_cons,hfz];rfl
     rcases i7 with ⟨w0,w5⟩|⟨b,w5,w1,w2,w3⟩
     ·simp only[go_sem,w5,eR_len,eR_scal,show n≤n+6 by omega,if_true];refine⟨by kernel_rfl, ?_⟩;refine nx _ _ _ (by omega) (by simp only[go_sem,z0,i6]) (.inr ⟨n+10,by rw[w0];rfl,by omega,by omega,by rw[w0];simp only[go_sem];rfl⟩) ⟨a1,a2⟩ e9
     ·have zb:∀j,¬b=n+j:=fun j=>by omega
      have lb:∀j,(b<n+j)=True:=fun j=>eq_true (by omega)
      have tkL:(L.map eRw).take L.length=L.map eRw:=List.take_of_length_le (by simp);simp only[go_sem,w5,w3,zb,lb,tkL,List.length_map,eR_len,eR_scal,show n≤n+6 by omega,if_true,show(1+L.length)*100≤140737488355328 by omega,and_false,if_false,Nat.lt_irrefl];refine⟨by kernel_rfl, ?_⟩;refine nx _ _ _ (by omega) (by simp only[go_sem,z0,i6]) (.inr ⟨n+10,by rw[List.length_cons,Nat.add_comm L.length];rfl,by omega,by omega,by simp only[go_sem];rfl⟩) ⟨a1,a2⟩ e9
  ·simp only[go_sem,decide_eq_false hc];refine hK _ _ _ ?_
   first|clear hK K|clear hK|skip
   refine W.condT (by simp only[go_sem]) ?_;refine W.rseq (k:=1) rfl fun K hK=>?_;simp only[go_sem];refine hK _ _ _ ?_;clear hK K;refine W.ret ?_;simp only[go_sem]
   have hfg:fitG g w=false:=by rw[fitG,decide_eq_false hc,Bool.false_and]
   exact⟨[],.inl ⟨rfl,rfl⟩,fun _=>rfl,fun e=>by rw[hfg] at e;cases e⟩
 obtain⟨r,h',n',hb,l,ho,q⟩:=fin;exact⟨l,⟨_,h',n',hb,5,fun fr=>ho.frz (d:=3) fun x _=>rfs_rw⟩,q⟩
end Go.Av
namespace Go.Av
open Go.Proofs
set_option maxRecDepth 100000
end Go.Av
namespace Go.Av
open Go.Proofs
set_option maxRecDepth 100000
abbrev Co:=Nat→Option Nat
def CoExt (co co':Co) (n:Nat):Prop:=∀x,x<n→co' x=co x
theorem CoExt.rfl' (co:Co) (n:Nat):CoExt co co n:=fun _ _=>rfl
theorem CoExt.trans {co co' co2:Co} {n n':Nat} (h:CoExt co co' n) (k:CoExt co' co2 n') (hn:n≤n'):CoExt co co2 n:=fun x hx=>(k x (by omega)).trans (h x hx)
def setc (co:Co) (b c:Nat):Co:=fun x=>if x=b then some c else co x
theorem setc_ext {co:Co} {b c n:Nat} (h:n≤b):CoExt co (setc co b c) n:=fun x hx=>by unfold setc;rw[if_neg (by omega)]
def SlC {α:Type} (e:α→List AV) (sz c:Nat) (co:Co) (h:Heap) (n:Nat) (v:AV) (l:List α):Prop:=(l=[]∧v=.nils)∨∃b,v=.sl b 0 l.length sz∧b<n∧co b=some c∧h b=some (.cells (l.map e))
def StC {α:Type} (e:α→List AV) (sz c:Nat) (co:Co) (h:Heap) (n:Nat) (v:AV) (l:List α):Prop:=(l=[]∧v=.nils)∨∃b es,v=.sl b 0 l.length sz∧b<n∧co b=some c∧h b=some (.cells es)∧l.length≤es.length∧es.take l.length=l.reverse.map e
def Frm (c:Nat) (co co':Co) (h h':Heap) (n n':Nat):Prop:=n≤n'∧CoExt co co' n∧∀x,x<n→co x=some c→h' x=h x
theorem SlC.next {α:Type} {e:α→List AV} {sz c:Nat} {co co':Co} {h h':Heap} {n n':Nat} {v:AV} {l:List α} (s:SlC e sz c co h n v l) (f:Frm c co co' h h' n n'):SlC e sz c co' h' n' v l:=by
 obtain⟨f1,f2,f3⟩:=f;rcases s with s|⟨b,s1,s2,s3,s4⟩
 ·exact .inl s
 ·exact .inr ⟨b,s1,by omega,(f2 b s2).trans s3,(f3 b s2 s3).trans s4⟩
theorem StC.next {α:Type} {e:α→List AV} {sz c:Nat} {co co':Co} {h h':Heap} {n n':Nat} {v:AV} {l:List α} (s:StC e sz c co h n v l) (f:Frm c co co' h h' n n'):StC e sz c co' h' n' v l:=by
 obtain⟨f1,f2,f3⟩:=f;rcases s with s|⟨b,es,s1,s2,s3,s4,s5⟩
 ·exact .inl s
 ·exact .inr ⟨b,es,s1,by omega,(f2 b s2).trans s3,(f3 b s2 s3).trans s4,s5⟩
def rowN (nodes:List Nd) (av:Nat→AV):List (List AV):=nodes.zipIdx.map fun x=>[.int .i64 x.1.1,av x.2]
structure Mac (bR:Nat) (g:Gr) (co:Co) (h:Heap) (n:Nat) (r:Rs) (tv wv nv:AV) (av:Nat→AV):Prop where
 root:bR<n∧co bR=some 0∧h bR=some (.cells [[.int .i64 g.terms,.int .i64 g.nons,.int .i64 g.start,.ro (g.prods.map ePr),tv,wv,nv]])
 todo:StC ePt 4 1 co h n tv r.todo
 word:SlC eIn 1 2 co h n wv r.word
 nodes:(r.nodes=[]∧nv=.nils)∨∃b,nv=.sl b 0 r.nodes.length 2∧b<n∧co b=some 3∧h b=some (.cells (rowN r.nodes av))
 ats:∀(i:Nat) (x:Nd),r.nodes[i]?=some x→SlC eIn 1 (4+i) co h n (av i) x.2
def MacR (bR:Nat) (g:Gr) (co:Co) (h:Heap) (n:Nat) (r':Rs) (h':Heap) (n':Nat):Prop:=
 n≤n'∧(∀x,x<n→co x=none→h' x=h x)∧∃co' tv wv nv av,CoExt co co' n∧Mac bR g co' h' n' r' tv wv nv av
theorem Mac.next {bR:Nat} {g:Gr} {co co':Co} {h h':Heap} {n n':Nat} {r:Rs} {tv wv nv:AV} {av:Nat→AV} (m:Mac bR g co h n r tv wv nv av) (hn:n≤n') (hc:CoExt co co' n) (hh:∀x,x<n→co x≠none→h' x=h x):Mac bR g co' h' n' r tv wv nv av:=by
 obtain⟨⟨m1,m2,m3⟩,m4,m5,m6,m7⟩:=m;have f:∀c,Frm c co co' h h' n n':=fun c=>⟨hn,hc,fun x hx e=>hh x hx (by rw[e];simp)⟩
 refine⟨⟨by omega,(hc _ m1).trans m2,(hh _ m1 (by rw[m2];simp)).trans m3⟩,m4.next (f _),m5.next (f _), ?_,fun i x hx=>(m7 i x hx).next (f _)⟩;rcases m6 with m6|⟨b,k1,k2,k3,k4⟩
 ·exact .inl m6
 ·exact .inr ⟨b,k1,by omega,(hc b k2).trans k3,(hh b k2 (by rw[k3];simp)).trans k4⟩
theorem Mac.setTodo {bR:Nat} {g:Gr} {co co':Co} {h h':Heap} {n n':Nat} {r:Rs} {tv wv nv tv':AV} {av:Nat→AV} {todo':List Pt} (m:Mac bR g co h n r tv wv nv av) (hn:n≤n') (hc:CoExt co co' n)
  (hroot:h' bR=some (.cells [[.int .i64 g.terms,.int .i64 g.nons,.int .i64 g.start,.ro (g.prods.map ePr),tv',wv,nv]])) (hst:StC ePt 4 1 co' h' n' tv' todo') (hh:∀x,x<n→x≠bR→co x≠some 1→h' x=h x):
  MacR bR g co h n ⟨todo',r.word,r.nodes⟩ h' n':=by
 obtain⟨⟨m1,m2,m3⟩,m4,m5,m6,m7⟩:=m;have f:∀c,c≠0→c≠1→Frm c co co' h h' n n':=fun c h0 h1=>⟨hn,hc,fun x hx e=>hh x hx (fun e2=>by rw[e2,m2] at e;cases e;exact h0 rfl) (by rw[e];simpa using h1)⟩
 refine⟨hn,fun x hx e=>hh x hx (fun e2=>by rw[e2,m2] at e;cases e) (by rw[e];simp),co',tv',wv,nv,av,hc,⟨by omega,(hc _ m1).trans m2,hroot⟩,hst,m5.next (f 2 (by omega) (by omega)), ?_,fun i x hx=>(m7 i x hx).next (f (4+i) (by omega) (by omega))⟩;rcases m6 with m6|⟨b,k1,k2,k3,k4⟩
 ·exact .inl m6
 ·exact .inr ⟨b,k1,by omega,(hc b k2).trans k3,((f 3 (by omega) (by omega)).2.2 b k2 k3).trans k4⟩
theorem Mac.setWord {bR:Nat} {g:Gr} {co co':Co} {h h':Heap} {n n':Nat} {r:Rs} {tv wv nv wv':AV} {av:Nat→AV} {word':List Int} (m:Mac bR g co h n r tv wv nv av) (hn:n≤n') (hc:CoExt co co' n)
  (hroot:h' bR=some (.cells [[.int .i64 g.terms,.int .i64 g.nons,.int .i64 g.start,.ro (g.prods.map ePr),tv,wv',nv]])) (hst:SlC eIn 1 2 co' h' n' wv' word') (hh:∀x,x<n→x≠bR→co x≠some 2→h' x=h x):
  MacR bR g co h n ⟨r.todo,word',r.nodes⟩ h' n':=by
 obtain⟨⟨m1,m2,m3⟩,m4,m5,m6,m7⟩:=m;have f:∀c,c≠0→c≠2→Frm c co co' h h' n n':=fun c h0 h1=>⟨hn,hc,fun x hx e=>hh x hx (fun e2=>by rw[e2,m2] at e;cases e;exact h0 rfl) (by rw[e];simpa using h1)⟩
 refine⟨hn,fun x hx e=>hh x hx (fun e2=>by rw[e2,m2] at e;cases e) (by rw[e];simp),co',tv,wv',nv,av,hc,⟨by omega,(hc _ m1).trans m2,hroot⟩,m4.next (f 1 (by omega) (by omega)),hst, ?_,fun i x hx=>(m7 i x hx).next (f (4+i) (by omega) (by omega))⟩;rcases m6 with m6|⟨b,k1,k2,k3,k4⟩
 ·exact .inl m6
 ·exact .inr ⟨b,k1,by omega,(hc b k2).trans k3,((f 3 (by omega) (by omega)).2.2 b k2 k3).trans k4⟩
def Rs.push (r:Rs) (p:Pt):Rs:=⟨p::r.todo,r.word,r.nodes⟩
theorem fz263 (bR:Nat) (g:Gr) (co:Co) (h:Heap) (n:Nat) (r:Rs) (tv wv nv:AV) (av:Nat→AV) (m:Mac bR g co h n r tv wv nv av) (p:Pt) (hl:r.todo.length<2^40):
  FH pg Tq 263 [.ptr bR 0 4,.agg (ePt p)] h n fun _ h' n'=>MacR bR g co h n (r.push p) h' n':=by
 have m':=m;obtain⟨⟨m1,m2,m3⟩,m4,m5,m6,m7⟩:=m;have zR:∀j,¬bR=n+j:=fun j=>by omega
 have zR':¬bR=n:=by omega
 have lR:∀j,(bR<n+j)=True:=fun j=>eq_true (by omega)
 refine FH.of (N:=14) (rs:=#[]) Tryz.func263 rfl rfl (of_decide_eq_true rfl) rfl (by decide) ?_;refine W.rseq (k:=1) rfl fun K hK=>?_;simp only[go_sem];refine hK _ _ _ ?_;clear hK K
 rcases m4 with ⟨e0,rfl⟩|⟨b,es,rfl,k2,k3,k4,k5,k6⟩
 ·refine W.draw (k:=11) rfl ?_;simp only[go_sem,zR,zR',lR,m3,ne_eq,not_false_eq_true,Int.reduceEq,show(0:Nat)<1 by omega,show(0:Nat)<4 by omega,show(0:Nat)<32 by omega];refine⟨by kernel_rfl, ?_⟩;refine m'.setTodo (co':=setc co (n+8) 1) (tv':=.sl (n+8) 0 1 4) (by omega) (setc_ext (by omega)) (by simp only[go_sem]) (.inr ⟨n+8,[ePt p],by rw[e0];rfl,by omega,by simp[setc], ?_,by rw[e0];simp,by rw[e0];simp⟩) fun x hx hxR hx1=>?_
  ·simp only[go_sem,show ¬n+8=bR by omega]
  ·simp only[go_sem,show ∀j,¬x=n+j from fun j=>by omega,show ¬x=n by omega,hxR]
 ·have hbR:¬b=bR:=fun e=>by rw[e,m2] at k3;cases k3
  have zb:∀j,¬b=n+j:=fun j=>by omega
  have zb':¬b=n:=by omega
  have k4':=k4;have hrv:∀x:List AV,es.take r.todo.length++[ePt p]=(p::r.todo).reverse.map ePt:=fun _=>by rw[k6,List.reverse_cons,List.map_append];rfl
  by_cases hfull:r.todo.length=es.length
  ·refine W.draw (k:=11) rfl ?_;simp only[go_sem,zR,zR',lR,zb,zb',m3,k4,hfull,show ¬bR=b from fun e=>hbR e.symm,Nat.lt_irrefl,and_false,if_false,ne_eq,not_false_eq_true,Int.reduceEq,show(0:Nat)<1 by omega,show(0:Nat)<4 by omega,show(0:Nat)<32 by omega,show(es.length+1)*32≤140737488355328 by omega,show ¬n+1≤b by omega];refine⟨by kernel_rfl, ?_⟩;refine m'.setTodo (co':=setc co (n+8) 1) (tv':=.sl (n+8) 0 (es.length+1) 4) (by omega) (setc_ext (by omega)) (by simp only[go_sem]) (.inr ⟨n+8,es++[ePt p],by rw[←hfull];rfl,by omega,by simp[setc], ?_,by simp[hfull], ?_⟩) fun x hx hxR hx1=>?_
   ·simp only[go_sem,show ¬n+8=bR by omega]
   ·rw[←hrv [],List.length_cons,hfull,List.take_of_length_le (by simp),List.take_length]
   ·have hxb:¬x=b:=fun e=>hx1 (by rw[e];exact k3)
    simp only[go_sem,show ∀j,¬x=n+j from fun j=>by omega,show ¬x=n by omega,hxR,hxb]
  ·have hlt:r.todo.length<es.length:=by omega
   refine W.draw (k:=11) rfl ?_;simp only[go_sem,zR,zR',lR,zb,zb',m3,k4,hlt,ne_eq,not_false_eq_true,Int.reduceEq,show(0:Nat)<1 by omega,show(0:Nat)<4 by omega,show(0:Nat)<32 by omega,show(r.todo.length+1)*32≤140737488355328 by omega,show r.todo.length≤es.length by omega,show r.todo.length+1≤es.length by omega,show ¬bR=b from fun e=>hbR e.symm];refine⟨by kernel_rfl, ?_⟩;refine m'.setTodo (co':=co) (tv':=.sl b 0 (r.todo.length+1) 4) (by omega) (CoExt.rfl' _ _) (by simp only[go_sem]) (.inr ⟨b,es.take r.todo.length++([ePt p]++es.drop (r.todo.length+1)),rfl,by omega,k3, ?_, ?_, ?_⟩) fun x hx hxR hx1=>?_
   ·simp only[go_sem,hbR]
   ·simp;omega
   ·rw[←hrv [],List.length_cons,←List.append_assoc,List.take_append_of_le_length (by simp;omega),List.take_of_length_le (by simp;omega)]
   ·have hxb:¬x=b:=fun e=>hx1 (by rw[e];exact k3)
    simp only[go_sem,show ∀j,¬x=n+j from fun j=>by omega,show ¬x=n by omega,hxR,hxb]
end Go.Av
namespace Go.Av
open Go.Proofs
set_option maxRecDepth 100000
def noP:Pt:=⟨⟨false,0⟩,0,false⟩
def popR (bR:Nat) (g:Gr) (co:Co) (h:Heap) (n:Nat) (r:Rs) (res:AV) (h':Heap) (n':Nat):Prop:=
 match r.todo with
 |[]=>res=.tup [.agg (ePt noP),.bool false]∧MacR bR g co h n r h' n'
 |p::l=>res=.tup [.agg (ePt p),.bool true]∧MacR bR g co h n ⟨l,r.word,r.nodes⟩ h' n'
theorem fz298 (bR:Nat) (g:Gr) (co:Co) (h:Heap) (n:Nat) (r:Rs) (tv wv nv:AV) (av:Nat→AV) (m:Mac bR g co h n r tv wv nv av) (hl:r.todo.length<2^40):
  FH pg Tq 298 [.ptr bR 0 4] h n fun res h' n'=>popR bR g co h n r res h' n':=by
 have m':=m;obtain⟨⟨m1,m2,m3⟩,m4,m5,m6,m7⟩:=m;have zR:∀j,¬bR=n+j:=fun j=>by omega
 have zR':¬bR=n:=by omega
 have lR:∀j,(bR<n+j)=True:=fun j=>eq_true (by omega)
 refine FH.of (N:=39) (rs:=#[.cell 2 368,.tmp 3]) Tryz.func298 rfl rfl (of_decide_eq_true rfl) rfl (by decide) ?_;refine W.rseq (k:=2) rfl fun K hK=>?_;simp only[go_sem];refine hK _ _ _ ?_;clear hK K;refine W.rseq (k:=1) rfl fun K hK=>?_;simp only[go_sem];refine hK _ _ _ ?_;clear hK K
 have fr:∀{h':Heap} {n':Nat},n≤n'→(∀x,x<n→h' x=h x)→MacR bR g co h n r h' n':=fun hn hh=>
  ⟨hn,fun x hx _=>hh x hx,co,tv,wv,nv,av,CoExt.rfl' _ _,m'.next hn (CoExt.rfl' _ _) fun x hx _=>hh x hx⟩
 unfold popR
 cases ht:r.todo with
 |nil=>
  simp only;rcases m4 with ⟨e0,rfl⟩|⟨b,es,rfl,k2,k3,k4,k5,k6⟩
  ·refine W.seq ?_;refine W.rseq (k:=6) rfl fun K hK=>?_;simp only[go_sem,zR,zR',m3,Int.natCast_zero];refine hK _ _ _ ?_;clear hK K;refine W.condT (by simp only[go_sem]) ?_;refine W.rseq (k:=3) rfl fun K hK=>?_;simp only[go_sem];refine hK _ _ _ ?_;clear hK K;refine W.ret ?_;simp only[go_sem]
   exact⟨rfl,fr (by omega) fun x hx=>by simp only[go_sem,show ∀j,¬x=n+j from fun j=>by omega,show ¬x=n by omega]⟩
  ·have h0:r.todo.length=0:=by rw[ht];rfl
   refine W.seq ?_;refine W.rseq (k:=6) rfl fun K hK=>?_;simp only[go_sem,zR,zR',m3,h0,Int.natCast_zero];refine hK _ _ _ ?_;clear hK K;refine W.condT (by simp only[go_sem]) ?_;refine W.rseq (k:=3) rfl fun K hK=>?_;simp only[go_sem];refine hK _ _ _ ?_;clear hK K;refine W.ret ?_;simp only[go_sem]
   exact⟨rfl,fr (by omega) fun x hx=>by simp only[go_sem,show ∀j,¬x=n+j from fun j=>by omega,show ¬x=n by omega]⟩
 |cons p l=>
  simp only;rcases m4 with ⟨e0,_⟩|⟨b,es,rfl,k2,k3,k4,k5,k6⟩
  ·rw[e0] at ht;cases ht
  have hlen:r.todo.length=l.length+1:=by rw[ht];rfl
  have hbR:¬b=bR:=fun e=>by rw[e,m2] at k3;cases k3
  have zb:∀j,¬b=n+j:=fun j=>by omega
  have zb':¬b=n:=by omega
  have lb:∀j,(b<n+j)=True:=fun j=>eq_true (by omega)
  rw[hlen] at k5 k6
  have hes:es[l.length]?=some (ePt p):=by
   have h1:(es.take (l.length+1))[l.length]?=es[l.length]?:=by rw[List.getElem?_take];simp
   rw[←h1,k6,ht,List.reverse_cons,List.map_append,List.getElem?_append_right (by simp)];simp
  have htk:es.take l.length=l.reverse.map ePt:=by
   have h1:(es.take (l.length+1)).take l.length=es.take l.length:=by rw[List.take_take];simp
   rw[←h1,k6,ht,List.reverse_cons,List.map_append,List.take_append_of_le_length (by simp),List.take_of_length_le (by simp)]
  have hw:IntKind.wrap .i64 (((l.length+1:Nat):Int) - 1)=(l.length:Int):=by
   rw[wrap64 (by omega) (by omega)];omega
  refine W.seq ?_;refine W.rseq (k:=6) rfl fun K hK=>?_;simp only[go_sem,zR,zR',m3,hlen,show decide (((l.length+1:Nat):Int)=0)=false from decide_eq_false (by omega)];refine hK _ _ _ ?_;clear hK K;refine W.condF (by simp only[go_sem]) ?_;refine W.skip ?_;simp only[go_sem];refine W.dseq (k:=13) rfl fun K hK=>?_;simp only[go_sem,zR,zR',lR,m3,zb,zb',lb,k4,hlen,hw,hes,show(l.length:Int)<((l.length+1:Nat):Int) by omega];refine hK _ _ _ _ (by kernel_rfl) ?_;clear hK K;refine W.dseq (k:=15) rfl fun K hK=>?_;simp only[go_sem,zR,zR',lR,m3,zb,zb',lb,k4,hlen,hw,Nat.zero_le,show l.length≤l.length+1 by omega];refine hK _ _ _ _ (by kernel_rfl) ?_;clear hK K
  have zR2:∀j,¬n+j=bR:=fun j=>by omega
  have zR2':¬n=bR:=by omega
  refine W.rseq (k:=3) rfl fun K hK=>?_;simp only[go_sem,zR2,zR2'];refine hK _ _ _ ?_;clear hK K;refine W.ret ?_;simp only[go_sem,zR2,zR2']
  refine m'.setTodo (co':=co) (tv':=.sl b 0 l.length 4) (by omega) (CoExt.rfl' _ _) (by simp only[go_sem,zR']) (.inr ⟨b,es,rfl,by omega,k3, ?_,by omega,htk⟩) fun x hx hxR hx1=>?_
  ·simp only[go_sem,zb,zb',hbR,k4]
  ·simp only[go_sem,show ∀j,¬x=n+j from fun j=>by omega,show ¬x=n by omega,hxR]
theorem rowN_len {nodes:List Nd} {av:Nat→AV}:(rowN nodes av).length=nodes.length:=by simp[rowN]
theorem rowN_get {nodes:List Nd} {av:Nat→AV} {i:Nat} {x:Nd} (h:nodes[i]?=some x):(rowN nodes av)[i]?=some [.int .i64 x.1,av i]:=by simp[rowN,h]
theorem rowN_set {nodes:List Nd} {av:Nat→AV} {i:Nat} {x:Nd} {v:AV} {pl:List Int} (h:nodes[i]?=some x):(rowN nodes av).set i [.int .i64 x.1,v]=rowN (nodes.modify i fun x=>(x.1,x.2++pl)) (fun j=>if j=i then v else av j):=by
 refine List.ext_getElem? fun j=>?_
 rw[List.getElem?_set];by_cases e:i=j
 ·subst e;have hl:i<nodes.length:=(List.getElem?_eq_some_iff.1 h).1;rw[if_pos rfl,if_pos (by rw[rowN_len];exact hl)];have h2:(nodes.modify i fun x=>(x.1,x.2++pl))[i]?=some (x.1,x.2++pl):=by rw[List.getElem?_modify];simp[h]
  rw[rowN_get h2];simp
 ·rw[if_neg e];have h2:(nodes.modify i fun x=>(x.1,x.2++pl))[j]?=nodes[j]?:=by rw[List.getElem?_modify];simp[e]
  cases hj:nodes[j]? with
  |none=>
   rw[hj] at h2;simp[rowN,hj,h2]
  |some y=>
   rw[hj] at h2;rw[rowN_get hj,rowN_get h2];simp[Ne.symm e]
theorem Mac.setAt {bR:Nat} {g:Gr} {co co':Co} {h h':Heap} {n n':Nat} {r:Rs} {tv wv nv:AV} {av:Nat→AV} (m:Mac bR g co h n r tv wv nv av) (hn:n≤n') (hc:CoExt co co' n) {i:Nat} {x:Nd} {v:AV} {pl:List Int} {bN:Nat} (hx:r.nodes[i]?=some x)
  (hnv:nv=.sl bN 0 r.nodes.length 2) (hbN:bN<n) (hcN:co bN=some 3) (hN:h' bN=some (.cells ((rowN r.nodes av).set i [.int .i64 x.1,v]))) (hst:SlC eIn 1 (4+i) co' h' n' v (x.2++pl)) (hh:∀x,x<n→x≠bN→co x≠some (4+i)→h' x=h x):
  MacR bR g co h n ⟨r.todo,r.word,r.nodes.modify i fun x=>(x.1,x.2++pl)⟩ h' n':=by
 obtain⟨⟨m1,m2,m3⟩,m4,m5,m6,m7⟩:=m;have f:∀c,c≠3→c≠4+i→Frm c co co' h h' n n':=fun c h0 h1=>⟨hn,hc,fun x hx e=>hh x hx (fun e2=>by rw[e2,hcN] at e;cases e;exact h0 rfl) (by rw[e];simpa using h1)⟩
 refine⟨hn,fun y hy e=>hh y hy (fun e2=>by rw[e2,hcN] at e;cases e) (by rw[e];simp),co',tv,wv,nv,fun j=>if j=i then v else av j,hc,⟨by omega,(hc _ m1).trans m2,((f 0 (by omega) (by omega)).2.2 bR m1 m2).trans m3⟩,m4.next (f 1 (by omega) (by omega)),m5.next (f 2 (by omega) (by omega)),.inr ⟨bN,by rw[hnv];simp,by omega,(hc bN hbN).trans hcN, ?_⟩,fun j y hy=>?_⟩
 ·rw[hN,rowN_set hx]
 ·by_cases e:j=i
  ·subst e;have h2:(r.nodes.modify j fun x=>(x.1,x.2++pl))[j]?=some (x.1,x.2++pl):=by rw[List.getElem?_modify];simp[hx]
   rw[h2] at hy;cases hy;simpa using hst
  ·have h2:(r.nodes.modify i fun x=>(x.1,x.2++pl))[j]?=r.nodes[j]?:=by rw[List.getElem?_modify];simp[Ne.symm e]
   rw[h2] at hy;simp only[e,if_false];exact(m7 j y hy).next (f (4+j) (by omega) (by omega))
theorem fz299 (bR:Nat) (g:Gr) (co:Co) (h:Heap) (n:Nat) (r:Rs) (tv wv nv:AV) (av:Nat→AV) (m:Mac bR g co h n r tv wv nv av) (p:Pt) (hp:p.node<r.nodes.length) (hw:r.word.length<2^40) (ha:∀x∈r.nodes,x.2.length<2^40):
  FH pg Tq 299 [.ptr bR 0 0,.agg (ePt p)] h n fun _ h' n'=>MacR bR g co h n ⟨r.todo,r.word,hereF r.word r.nodes p⟩ h' n':=by
 have m':=m;obtain⟨⟨m1,m2,m3⟩,m4,m5,m6,m7⟩:=m;have zR:∀j,¬bR=n+j:=fun j=>by omega
 have zR':¬bR=n:=by omega
 have lR:∀j,(bR<n+j)=True:=fun j=>eq_true (by omega)
 refine FH.of (N:=29) (rs:=#[]) Tryz.func299 rfl rfl (of_decide_eq_true rfl) rfl (by decide) ?_;refine W.rseq (k:=1) rfl fun K hK=>?_;simp only[go_sem];refine hK _ _ _ ?_;clear hK K;refine W.rseq (k:=3) rfl fun K hK=>?_;simp only[go_sem];refine hK _ _ _ ?_;clear hK K
 by_cases hneg:p.node<0
 ·refine W.condF (by simp only[go_sem,show decide (p.node≥0)=false from decide_eq_false (by omega)]) ?_;refine W.skip ?_;simp only[go_sem];have:hereF r.word r.nodes p=r.nodes:=by rw[hereF,extN,if_neg (by omega)]
  rw[this];exact⟨by omega,fun x hx _=>by simp only[go_sem,show ∀j,¬x=n+j from fun j=>by omega,show ¬x=n by omega],co,tv,wv,nv,av,CoExt.rfl' _ _,m'.next (by omega) (CoExt.rfl' _ _) fun x hx _=>by simp only[go_sem,show ∀j,¬x=n+j from fun j=>by omega,show ¬x=n by omega]⟩
 refine W.condT (by simp only[go_sem,show decide (p.node≥0)=true from decide_eq_true (by omega)]) ?_;obtain⟨ν,hν⟩:∃ν:Nat,p.node=ν:=⟨p.node.toNat,by omega⟩;have hνl:ν<r.nodes.length:=by omega
 obtain⟨x,hx⟩:=get_some hνl;have hH:hereF r.word r.nodes p=r.nodes.modify ν fun y=>(y.1,y.2++[(r.word.length:Int)]):=by rw[hereF,extN,if_pos (by omega),hν,Int.toNat_natCast]
 rw[hH];rcases m6 with ⟨e0,_⟩|⟨bN,hnv,k2,k3,k4⟩
 ·rw[e0] at hνl;simp at hνl
 have zN:∀j,¬bN=n+j:=fun j=>by omega
 have zN':¬bN=n:=by omega
 have lN:∀j,(bN<n+j)=True:=fun j=>eq_true (by omega)
 have hNR:¬bN=bR:=fun e=>by rw[e,m2] at k3;cases k3
 have hrow:=rowN_get (av:=av) hx;obtain⟨A,hA⟩:∃A,A=rowN r.nodes av:=⟨_,rfl⟩;have hAl:A.length=r.nodes.length:=by rw[hA,rowN_len]
 rw[←hA] at hrow k4;have hax:=ha x (List.mem_of_getElem? hx);rw[hnv] at m3;refine W.dseq (k:=8) rfl fun K hK=>?_;simp only[go_sem,zR,zR',lR,m3,hν,show(ν:Int)<(r.nodes.length:Int) by omega];refine hK _ _ _ _ (by kernel_rfl) ?_;clear hK K
 rcases m5 with ⟨w0,rfl⟩|⟨bW,rfl,w2,w3,w4⟩
 ·rcases m7 ν x hx with ⟨e0,e1⟩|⟨bA,e1,e2,e3,e4⟩
  ·rw[e1] at hrow;refine W.draw (k:=15) rfl ?_;simp only[go_sem,zR,zR',lR,zN,zN',lN,m3,k4,hν,hrow,ne_eq,not_false_eq_true,Int.reduceEq,show(0:Nat)<1 by omega,show(0:Nat)<8 by omega];refine⟨by kernel_rfl, ?_⟩;refine m'.setAt (co':=setc co (n+23) (4+ν)) (v:=.sl (n+23) 0 1 1) (pl:=[(r.word.length:Int)]) (by omega) (setc_ext (by omega)) hx hnv k2 k3 ?_ (.inr ⟨n+23,by rw[e0];rfl,by omega,by simp[setc], ?_⟩) fun y hy hyN hy1=>?_
   ·simp only[go_sem,hA]
   ·simp only[go_sem,show ¬n+23=bN by omega,e0,w0];rfl
   ·simp only[go_sem,show ∀j,¬y=n+j from fun j=>by omega,show ¬y=n by omega,hyN]
  ·rw[e1] at hrow;have zA:∀j,¬bA=n+j:=fun j=>by omega
   have zA':¬bA=n:=by omega
   have hAR:¬bR=bA:=fun e=>by rw[←e,m2] at e3;injection e3 with e3;omega
   have hAN:¬bN=bA:=fun e=>by rw[←e,k3] at e3;injection e3 with e3;omega
   refine W.draw (k:=15) rfl ?_;simp only[go_sem,zR,zR',lR,zN,zN',lN,zA,zA',hAR,hAN,m3,k4,e4,hν,hrow,List.length_map,Nat.lt_irrefl,and_false,if_false,ne_eq,not_false_eq_true,Int.reduceEq,show(0:Nat)<1 by omega,show(0:Nat)<8 by omega,show(x.2.length+1)*8≤140737488355328 by omega,show ¬n≤bA by omega,show ¬n+12≤bA by omega,show ¬n+11≤bA by omega];refine⟨by kernel_rfl, ?_⟩;refine m'.setAt (co':=setc co (n+23) (4+ν)) (v:=.sl (n+23) 0 (x.2.length+1) 1) (pl:=[(r.word.length:Int)]) (by omega) (setc_ext (by omega)) hx hnv k2 k3 ?_ (.inr ⟨n+23,by simp,by omega,by simp[setc], ?_⟩) fun y hy hyN hy1=>?_
   ·simp only[go_sem,hA]
   ·simp only[go_sem,show ¬n+23=bN by omega,List.map_append,w0];rfl
   ·have hyA:¬y=bA:=fun e=>hy1 (by rw[e];exact e3)
    simp only[go_sem,show ∀j,¬y=n+j from fun j=>by omega,show ¬y=n by omega,hyN,hyA]
 ·rcases m7 ν x hx with ⟨e0,e1⟩|⟨bA,e1,e2,e3,e4⟩
  ·rw[e1] at hrow;refine W.draw (k:=15) rfl ?_;simp only[go_sem,zR,zR',lR,zN,zN',lN,m3,k4,hν,hrow,ne_eq,not_false_eq_true,Int.reduceEq,show(0:Nat)<1 by omega,show(0:Nat)<8 by omega];refine⟨by kernel_rfl, ?_⟩;refine m'.setAt (co':=setc co (n+23) (4+ν)) (v:=.sl (n+23) 0 1 1) (pl:=[(r.word.length:Int)]) (by omega) (setc_ext (by omega)) hx hnv k2 k3 ?_ (.inr ⟨n+23,by rw[e0];rfl,by omega,by simp[setc], ?_⟩) fun y hy hyN hy1=>?_
   ·simp only[go_sem,hA]
   ·simp only[go_sem,show ¬n+23=bN by omega,e0];rfl
   ·simp only[go_sem,show ∀j,¬y=n+j from fun j=>by omega,show ¬y=n by omega,hyN]
  ·rw[e1] at hrow;have zA:∀j,¬bA=n+j:=fun j=>by omega
   have zA':¬bA=n:=by omega
   have hAR:¬bR=bA:=fun e=>by rw[←e,m2] at e3;injection e3 with e3;omega
   have hAN:¬bN=bA:=fun e=>by rw[←e,k3] at e3;injection e3 with e3;omega
   refine W.draw (k:=15) rfl ?_;simp only[go_sem,zR,zR',lR,zN,zN',lN,zA,zA',hAR,hAN,m3,k4,e4,hν,hrow,List.length_map,Nat.lt_irrefl,and_false,if_false,ne_eq,not_false_eq_true,Int.reduceEq,show(0:Nat)<1 by omega,show(0:Nat)<8 by omega,show(x.2.length+1)*8≤140737488355328 by omega,show ¬n≤bA by omega,show ¬n+12≤bA by omega,show ¬n+11≤bA by omega];refine⟨by kernel_rfl, ?_⟩;refine m'.setAt (co':=setc co (n+23) (4+ν)) (v:=.sl (n+23) 0 (x.2.length+1) 1) (pl:=[(r.word.length:Int)]) (by omega) (setc_ext (by omega)) hx hnv k2 k3 ?_ (.inr ⟨n+23,by simp,by omega,by simp[setc], ?_⟩) fun y hy hyN hy1=>?_
   ·simp only[go_sem,hA]
   ·simp only[go_sem,show ¬n+23=bN by omega,List.map_append];rfl
   ·have hyA:¬y=bA:=fun e=>hy1 (by rw[e];exact e3)
    simp only[go_sem,show ∀j,¬y=n+j from fun j=>by omega,show ¬y=n by omega,hyN,hyA]
end Go.Av
namespace Go.Av
open Go.Proofs
set_option maxRecDepth 100000
structure Rs.Fine (r:Rs) (B:Nat):Prop where
 sum:r.todo.length+r.word.length≤B
 nodes:r.nodes.length≤B
 ats:∀x∈r.nodes,x.2.length+r.todo.length≤B
 parts:∀p∈r.todo,p.node<r.nodes.length
theorem hereF_len {w:List Int} {ns:List Nd} {p:Pt}:(hereF w ns p).length=ns.length:=extN_len
theorem hereF_mem {w:List Int} {ns:List Nd} {p:Pt} {B:Nat} (h:∀x∈ns,x.2.length+1≤B):∀x∈hereF w ns p,x.2.length≤B:=by
 intro x hx;unfold hereF extN at hx;split at hx
 ·obtain⟨i,hi⟩:=List.mem_iff_getElem?.1 hx;rw[List.getElem?_modify] at hi
  cases hn:ns[i]? with
  |none=>rw[hn] at hi;simp at hi
  |some y=>
   rw[hn] at hi;have:=h y (List.mem_of_getElem? hn);simp only[Option.map_eq_map,Option.map_some,Option.some.injEq] at hi;subst hi;split
   ·simp;omega
   ·omega
 ·have:=h x hx;omega
theorem Rs.Fine.drop {r:Rs} {B:Nat} {p:Pt} {t:List Pt} (h:r.Fine B) (ht:r.todo=p::t):(⟨t,r.word,hereF r.word r.nodes p⟩:Rs).Fine B∧((⟨t,r.word++[p.s.n],hereF r.word r.nodes p⟩:Rs)).Fine B:=by
 obtain⟨h1,h2,h3,h4⟩:=h;rw[ht] at h1 h3 h4;simp only[List.length_cons] at h1 h3
 have a:∀x∈hereF r.word r.nodes p,x.2.length+t.length≤B:=fun x hx=>by
  by_cases hB:t.length≤B
  ·have:=hereF_mem (B:=B - t.length) (fun x hx=>by have:=h3 x hx;omega) x hx;omega
  ·omega
 exact⟨⟨by simp;omega,by rw[hereF_len];exact h2,a,fun q hq=>by rw[hereF_len];exact h4 q (by simp[hq])⟩,⟨by simp;omega,by rw[hereF_len];exact h2,a,fun q hq=>by rw[hereF_len];exact h4 q (by simp[hq])⟩⟩
def cut (co:Co) (n:Nat):Co:=fun x=>if x<n then co x else none
theorem cut_lt {co:Co} {n x:Nat} (h:x<n):cut co n x=co x:=if_pos h
theorem cut_ge {co:Co} {n x:Nat} (h:n≤x):cut co n x=none:=if_neg (by omega)
def Bs (co:Co) (h:Heap) (n:Nat) (co':Co) (h':Heap) (n':Nat):Prop:=n≤n'∧CoExt co co' n∧∀x,x<n→co x=none→h' x=h x
theorem Bs.start {co:Co} {h h':Heap} {n n':Nat} (hn:n≤n') (hh:∀x,x<n→h' x=h x):Bs co h n (cut co n) h' n':=⟨hn,fun x hx=>cut_lt hx,fun x hx _=>hh x hx⟩
theorem Bs.loc {co ck:Co} {h hk h':Heap} {n nk n':Nat} (b:Bs co h n ck hk nk) (hn:nk≤n') (hh:∀x,x<n→h' x=hk x):Bs co h n (cut ck nk) h' n':=by
 obtain⟨b1,b2,b3⟩:=b;exact⟨by omega,fun x hx=>(cut_lt (by omega)).trans (b2 x hx),fun x hx e=>(hh x hx).trans (b3 x hx e)⟩
theorem Bs.call {co ck c':Co} {h hk h':Heap} {n nk n':Nat} (b:Bs co h n ck hk nk) (hn:nk≤n') (hc:CoExt ck c' nk) (hh:∀x,x<nk→ck x=none→h' x=hk x):Bs co h n c' h' n':=by
 obtain⟨b1,b2,b3⟩:=b;exact⟨by omega,b2.trans hc b1,fun x hx e=>(hh x (by omega) ((b2 x hx).trans e)).trans (b3 x hx e)⟩
theorem Mac.loc {bR:Nat} {g:Gr} {co:Co} {h h':Heap} {n n':Nat} {r:Rs} {tv wv nv:AV} {av:Nat→AV} (m:Mac bR g co h n r tv wv nv av) (hn:n≤n') (hh:∀x,x<n→co x≠none→h' x=h x):Mac bR g (cut co n) h' n' r tv wv nv av:=
 m.next hn (fun x hx=>cut_lt hx) hh
theorem Bs.mac {bR:Nat} {g:Gr} {co ck:Co} {h hk:Heap} {n nk:Nat} {r:Rs} {tv wv nv:AV} {av:Nat→AV} (b:Bs co h n ck hk nk) (m:Mac bR g ck hk nk r tv wv nv av):MacR bR g co h n r hk nk:=
 ⟨b.1,b.2.2,ck,tv,wv,nv,av,b.2.1,m⟩
def runR (bR:Nat) (g:Gr) (co:Co) (h:Heap) (n:Nat) (r:Rs) (res:AV) (h':Heap) (n':Nat):Prop:=
 res=.tup [.int .i64 ((runF r.todo r.word r.nodes).1.getD 0),.bool (runF r.todo r.word r.nodes).1.isSome]∧MacR bR g co h n (runF r.todo r.word r.nodes).2 h' n'
set_option maxHeartbeats 4000000 in
theorem fz264 (bR:Nat) (g:Gr) (co:Co) (h:Heap) (n:Nat) (r:Rs) (tv wv nv:AV) (av:Nat→AV) (m:Mac bR g co h n r tv wv nv av) (B:Nat) (hB:B<2^40) (hf:r.Fine B):
  FH pg Tq 264 [.ptr bR 0 0] h n fun res h' n'=>runR bR g co h n r res h' n':=by
 refine FH.of (N:=40) (rs:=#[.tmp 2,.tmp 3]) Tryz.func264 rfl rfl (of_decide_eq_true rfl) rfl (by decide) ?_;refine W.rseq (k:=2) rfl fun K hK=>?_;simp only[go_sem];refine hK _ _ _ ?_;clear hK K
 refine W.block (W.while (fun k t h1 n1=>∃(r1:Rs) (co1:Co) (tv wv nv:AV) (av:Nat→AV),k=r1.todo.length∧r1.Fine B∧runF r1.todo r1.word r1.nodes=runF r.todo r.word r.nodes∧Bs co h n co1 h1 n1∧Mac bR g co1 h1 n1 r1 tv wv nv av∧t 0=.ptr bR 0 0) r.todo.length
  ⟨r,_,tv,wv,nv,av,rfl,hf,rfl,Bs.start (by omega) (fun x hx=>by simp only[go_sem]),m.loc (by omega) (fun x hx _=>by simp only[go_sem]),rfl⟩ fun k t h1 n1 ⟨r1,co1,tv,wv,nv,av,i1,i2,i3,i4,i5,i6⟩=>?_)
 have hlen:r1.todo.length<2^40:=by have:=i2.sum;omega
 refine W.block ?_;refine W.rseq (k:=10) rfl fun K hK=>?_;simp only[go_sem,i6]
 refine VCall.heap (fz298 bR g (cut co1 n1) h1 (n1+10) r1 tv wv nv av (i5.loc (by omega) fun x hx _=>rfl) hlen) fun res h2 n2 hres=>?_
 unfold popR at hres
 cases ht:r1.todo with
 |nil=>
  rw[ht] at hres;obtain⟨rfl,a1,a2,co2,tv2,wv2,nv2,av2,a3,a4⟩:=hres;simp only[go_sem];refine hK _ _ _ ?_
  first|clear hK K|clear hK|skip
  refine W.seq ?_;refine W.rseq (k:=2) rfl fun K hK=>?_;simp only[go_sem];refine hK _ _ _ ?_;clear hK K;refine W.condT (by simp only[go_sem]) ?_;refine W.rseq (k:=2) rfl fun K hK=>?_;simp only[go_sem];refine hK _ _ _ ?_;clear hK K;refine W.ret ?_;simp only[go_sem]
  have hb:Bs co h n co2 h2 n2:=(i4.loc (n':=n1+10) (by omega) fun x hx=>rfl).call a1 a3 a2;have hs:co2 (n1+7)=none:=(a3 _ (by omega)).trans (cut_ge (by omega));unfold runR;rw[←i3,ht];refine⟨rfl, ?_⟩;have hr:(runF [] r1.word r1.nodes).2=r1:=by rw[runF,←ht]
  rw[hr];have nn:=i4.1;exact(hb.loc (by omega) fun x hx=>by simp only[go_sem,show ¬x=n1+7 by omega,show ∀j,¬x=n2+j from fun j=>by omega]).mac (a4.loc (by omega) fun x hx hx2=>by simp only[go_sem,show ¬x=n1+7 from fun e=>hx2 (e▸hs),show ∀j,¬x=n2+j from fun j=>by omega])
 |cons p l=>
  rw[ht] at hres;obtain⟨rfl,a1,a2,co2,tv2,wv2,nv2,av2,a3,a4⟩:=hres;simp only[go_sem];refine hK _ _ _ ?_
  first|clear hK K|clear hK|skip
  refine W.seq ?_;refine W.rseq (k:=2) rfl fun K hK=>?_;simp only[go_sem];refine hK _ _ _ ?_;clear hK K;refine W.condF (by simp only[go_sem]) ?_;refine W.skip ?_;simp only[go_sem]
  have hb:Bs co h n co2 h2 n2:=(i4.loc (n':=n1+10) (by omega) fun x hx=>rfl).call a1 a3 a2;have hs:co2 (n1+7)=none:=(a3 _ (by omega)).trans (cut_ge (by omega));have nn:=i4.1;have z2:∀x,x<n2→∀j,¬x=n2+j:=fun x hx j=>by omega
  have hpn:p.node<r1.nodes.length:=i2.parts p (by rw[ht];simp);have hwl:r1.word.length<2^40:=by have:=i2.sum;omega
  have hal:∀x∈r1.nodes,x.2.length<2^40:=fun x hx=>by have:=i2.ats x hx;omega
  obtain⟨fine1,fine2⟩:=i2.drop ht;refine W.rseq (k:=3) rfl fun K hK=>?_;simp only[go_sem,i6]
  refine VCall.heap (fz299 bR g (cut co2 n2) _ _ ⟨l,r1.word,r1.nodes⟩ tv2 wv2 nv2 av2 (a4.loc (by omega) fun x hx hx2=>by simp only[go_sem,show ¬x=n1+7 from fun e=>hx2 (e▸hs),z2 x hx]) p hpn hwl hal) fun res h3 n3 hres=>?_
  obtain⟨b1,b2,co3,tv3,wv3,nv3,av3,b3,b4⟩:=hres;have hb3:Bs co h n co3 h3 n3:=(hb.loc (h':=_) (n':=_) (by omega) (fun x hx=>by simp only[go_sem,show ¬x=n1+7 by omega])).call b1 b3 b2;have hs3':cut co2 n2 (n1+7)=none:=by rw[cut_lt (by omega)];exact hs
  have hs3:co3 (n1+7)=none:=(b3 _ (by omega)).trans hs3';have hp3:h3 (n1+7)=some (.cells [ePt p]):=by rw[b2 _ (by omega) hs3'];simp only[go_sem]
  simp only[go_sem];refine hK _ _ _ ?_
  first|clear hK K|clear hK|skip
  refine W.seqk fun K hK=>?_;refine W.block ?_;refine W.rseq (k:=3) rfl fun K hK=>?_;simp only[go_sem,hp3];refine hK _ _ _ ?_;clear hK K
  cases hfin:p.fin
  ·refine W.condF (by simp only[go_sem,hfin]) ?_;refine W.rseq (k:=4) rfl fun K hK=>?_;simp only[go_sem,hp3];refine hK _ _ _ ?_;clear hK K
   cases hnon:p.s.non
   ·refine W.condF (by simp only[go_sem,hnon]) ?_;refine W.skip ?_;simp only[go_sem];refine hK _ _ _ ?_;clear hK;have b4':=b4;obtain⟨⟨m1,m2,m3⟩,m4,m5,m6,m7⟩:=b4';have zR:∀j,¬bR=n3+j:=fun j=>by omega
    have lR:∀j,(bR<n3+j)=True:=fun j=>eq_true (by omega)
    have zs:∀j,¬n1+7=n3+j:=fun j=>by omega
    have ls:∀j,(n1+7<n3+j)=True:=fun j=>eq_true (by omega)
    have hr:runF l (r1.word++[p.s.n]) (hereF r1.word r1.nodes p)=runF r.todo r.word r.nodes:=by rw[←i3,ht,runF,hfin,hnon];simp
    have fin:∀(h':Heap) (n':Nat),MacR bR g co3 h3 n3 ⟨l,r1.word++[p.s.n],hereF r1.word r1.nodes p⟩ h' n'→∃k',k'<k∧∃(r1:Rs) (co1:Co) (tv wv nv:AV) (av:Nat→AV),k'=r1.todo.length∧r1.Fine B∧runF r1.todo r1.word r1.nodes=runF r.todo r.word r.nodes∧Bs co h n co1 h' n'∧Mac bR g co1 h' n' r1 tv wv nv av:=fun h' n' ⟨c1,c2,co4,tv4,wv4,nv4,av4,c3,c4⟩=>
     ⟨l.length,by rw[i1,ht];simp,⟨l,r1.word++[p.s.n],hereF r1.word r1.nodes p⟩,co4,tv4,wv4,nv4,av4,rfl,fine2,hr,hb3.call c1 c3 c2,c4⟩
    simp only at m5;rcases m5 with ⟨e0,rfl⟩|⟨bW,rfl,k2,k3,k4⟩
    ·refine W.draw (k:=13) rfl ?_;simp only[go_sem,i6,zR,lR,zs,ls,m3,hp3,ne_eq,not_false_eq_true,Int.reduceEq,show(0:Nat)<1 by omega,show(0:Nat)<8 by omega];refine⟨by kernel_rfl, ?_⟩;refine fin _ _ ?_;refine b4.setWord (co':=setc co3 (n3+16) 2) (wv':=.sl (n3+16) 0 1 1) (by omega) (setc_ext (by omega)) (by simp only[go_sem]) (.inr ⟨n3+16,by simp[e0],by omega,by simp[setc], ?_⟩) ?_
     ·simp only[go_sem,show ¬n3+16=bR by omega,e0];rfl
     ·intro x hx hxR hx1;simp only[go_sem,show ∀j,¬x=n3+j from fun j=>by omega,hxR]
    ·have zW:∀j,¬bW=n3+j:=fun j=>by omega
     have hWR:¬bR=bW:=fun e=>by rw[←e,m2] at k3;injection k3 with k3;omega
     have hWs:¬n1+7=bW:=fun e=>by rw[←e,hs3] at k3;cases k3
     refine W.draw (k:=13) rfl ?_;simp only[go_sem,i6,zR,lR,zs,ls,zW,hWR,hWs,m3,hp3,k4,Nat.lt_irrefl,and_false,if_false,ne_eq,not_false_eq_true,Int.reduceEq,show(0:Nat)<1 by omega,show(0:Nat)<8 by omega,show(r1.word.length+1)*8≤140737488355328 by omega,show ¬n3+7≤bW by omega];refine⟨by kernel_rfl, ?_⟩;refine fin _ _ ?_;refine b4.setWord (co':=setc co3 (n3+16) 2) (wv':=.sl (n3+16) 0 (r1.word.length+1) 1) (by omega) (setc_ext (by omega)) (by simp only[go_sem]) (.inr ⟨n3+16,by simp,by omega,by simp[setc], ?_⟩) ?_
     ·simp only[go_sem,show ¬n3+16=bR by omega,List.map_append];rfl
     ·intro x hx hxR hx1;have hxW:¬x=bW:=fun e=>hx1 (by rw[e];exact k3)
      simp only[go_sem,show ∀j,¬x=n3+j from fun j=>by omega,hxR,hxW]
   ·refine W.condT (by simp only[go_sem,hnon]) ?_;refine W.rseq (k:=5) rfl fun K hK=>?_;simp only[go_sem,hp3];refine hK _ _ _ ?_;clear hK K;refine W.ret ?_;simp only[go_sem]
    have hr:runF r1.todo r1.word r1.nodes=(some p.s.n,⟨l,r1.word,hereF r1.word r1.nodes p⟩):=by rw[ht,runF,hfin,hnon];simp
    unfold runR;rw[←i3,hr];refine⟨rfl, ?_⟩;exact(hb3.loc (by omega) fun x hx=>by simp only[go_sem,show ∀j,¬x=n3+j from fun j=>by omega]).mac (b4.loc (by omega) fun x hx hx2=>by simp only[go_sem,show ∀j,¬x=n3+j from fun j=>by omega])
  ·refine W.condT (by simp only[go_sem,hfin]) ?_;refine W.exit ?_;simp only[go_sem];have hr:runF l r1.word (hereF r1.word r1.nodes p)=runF r.todo r.word r.nodes:=by rw[←i3,ht,runF,hfin];simp
   exact⟨l.length,by rw[i1,ht];simp,⟨l,r1.word,hereF r1.word r1.nodes p⟩,_,tv3,wv3,nv3,av3,rfl,fine1,hr,hb3.loc (by omega) (fun x hx=>by simp only[go_sem]),b4.loc (by omega) (fun x hx hx2=>by simp only[go_sem]),i6⟩
end Go.Av
namespace Go.Av
open Go.Proofs
set_option maxRecDepth 100000
theorem rowN_snoc {nodes:List Nd} {av:Nat→AV} {x:Int}:rowN (nodes++[(x,[])]) (fun j=>if j=nodes.length then .nils else av j)=rowN nodes av++[[.int .i64 x,.nils]]:=by
 refine List.ext_getElem? fun j=>?_
 rw[List.getElem?_append,rowN_len];by_cases h:j<nodes.length
 ·rw[if_pos h];obtain⟨y,hy⟩:=get_some h;rw[rowN_get hy,rowN_get (x:=y) (by rw[List.getElem?_append_left h];exact hy)];simp[show ¬j=nodes.length by omega]
 ·rw[if_neg h];by_cases e:j=nodes.length
  ·subst e;rw[rowN_get (x:=(x,[])) (by simp)];simp
  ·rw[List.getElem?_eq_none (by rw[rowN_len];simp;omega),List.getElem?_eq_none (by simp;omega)]
theorem Mac.setNodes {bR:Nat} {g:Gr} {co co':Co} {h h':Heap} {n n':Nat} {r:Rs} {tv wv nv:AV} {av:Nat→AV} (m:Mac bR g co h n r tv wv nv av) (hn:n≤n') (hc:CoExt co co' n) {x:Int} {b:Nat}
  (hroot:h' bR=some (.cells [[.int .i64 g.terms,.int .i64 g.nons,.int .i64 g.start,.ro (g.prods.map ePr),tv,wv,.sl b 0 (r.nodes.length+1) 2]])) (hb:b<n') (hcb:co' b=some 3) (hN:h' b=some (.cells (rowN r.nodes av++[[.int .i64 x,.nils]]))) (hh:∀x,x<n→x≠bR→co x≠some 3→h' x=h x):
  MacR bR g co h n ⟨r.todo,r.word,r.nodes++[(x,[])]⟩ h' n':=by
 obtain⟨⟨m1,m2,m3⟩,m4,m5,m6,m7⟩:=m;have f:∀c,c≠0→c≠3→Frm c co co' h h' n n':=fun c h0 h1=>⟨hn,hc,fun x hx e=>hh x hx (fun e2=>by rw[e2,m2] at e;cases e;exact h0 rfl) (by rw[e];simpa using h1)⟩
 refine⟨hn,fun y hy e=>hh y hy (fun e2=>by rw[e2,m2] at e;cases e) (by rw[e];simp),co',tv,wv,.sl b 0 (r.nodes.length+1) 2,fun j=>if j=r.nodes.length then .nils else av j,hc,⟨by omega,(hc _ m1).trans m2,hroot⟩,m4.next (f 1 (by omega) (by omega)),m5.next (f 2 (by omega) (by omega)),.inr ⟨b,by simp,hb,hcb, ?_⟩,fun j y hy=>?_⟩
 ·rw[hN,rowN_snoc]
 ·by_cases e:j=r.nodes.length
  ·subst e;rw[List.getElem?_append_right (Nat.le_refl _)] at hy;simp only[Nat.sub_self,List.getElem?_cons_zero,Option.some.injEq] at hy;subst hy;exact .inl ⟨rfl,by simp⟩
  ·have hj:j<r.nodes.length:=by
    have:=(List.getElem?_eq_some_iff.1 hy).1;simp at this;omega
   rw[List.getElem?_append_left hj] at hy;simp only[e,if_false];exact(m7 j y hy).next (f (4+j) (by omega) (by omega))
set_option maxHeartbeats 4000000 in
theorem fz265 (bR:Nat) (g:Gr) (co:Co) (h:Heap) (n:Nat) (r:Rs) (tv wv nv:AV) (av:Nat→AV) (m:Mac bR g co h n r tv wv nv av) (x:Int) (p:Pr) (hx0:0≤x) (hp:g.prods[x.toNat]?=some p) (hr8:p.right.length≤8) (hl:r.todo.length<2^30) (hl2:r.nodes.length<2^30):
  FH pg Tq 265 [.ptr bR 0 0,.int .i64 x] h n fun _ h' n'=>MacR bR g co h n (openF x p.right r) h' n':=by
 obtain⟨ξ,hξ⟩:∃ξ:Nat,x=ξ:=⟨x.toNat,by omega⟩;have hpξ:g.prods[ξ]?=some p:=by rw[hξ,Int.toNat_natCast] at hp;exact hp
 have m':=m;obtain⟨⟨m1,m2,m3⟩,m4,m5,m6,m7⟩:=m;have zR:∀j,¬bR=n+j:=fun j=>by omega
 have lR:∀j,(bR<n+j)=True:=fun j=>eq_true (by omega)
 obtain⟨nd,hnd⟩:∃nd,nd=r.nodes.length:=⟨_,rfl⟩;obtain⟨A,hA⟩:∃A,A=rowN r.nodes av:=⟨_,rfl⟩;have hAl:A.length=nd:=by rw[hA,rowN_len,hnd]
 rw[←hA,←hnd] at m6;refine FH.of (N:=55) (rs:=#[]) Tryz.func265 rfl rfl (of_decide_eq_true rfl) rfl (by decide) ?_
 have nv2:nv=.nils∧nd=0∨∃b,nv=.sl b 0 nd 2∧b<n∧co b=some 3∧h b=some (.cells A):=by
  rcases m6 with ⟨a,b⟩|h
  ·exact .inl ⟨b,by rw[hnd,a];rfl⟩
  ·exact .inr h
 refine W.rseq (k:=6) rfl fun K hK=>?_
 have nx0:∀(t':Fr) (n':Nat),n≤n'→t' 0=.ptr bR 0 0→t' 1=.int .i64 x→t' 4=.int .i64 nd→K t' h n':=by
  intro t' n' c0 c1 c2 c3;refine hK _ _ _ ?_;clear hK;have zR:∀j,¬bR=n'+j:=fun j=>by omega
  have lR:∀j,(bR<n'+j)=True:=fun j=>eq_true (by omega)
  refine W.seqk fun K hK=>?_
  have nx1:∀(t':Fr) (h':Heap) (n':Nat),t' 0=.ptr bR 0 0→t' 1=.int .i64 x→t' 4=.int .i64 nd→MacR bR g co h n ⟨r.todo,r.word,r.nodes++[(x,[])]⟩ h' n'→K t' h' n':=by
   intro t' h1 n1 c1 c2 c3 ⟨a1,a2,co1,tv1,wv1,nv1,av1,a3,a4⟩;have hb:Bs co h n co1 h1 n1:=⟨a1,a3,a2⟩;refine hK _ _ _ ?_;clear hK;refine W.rseq (k:=6) rfl fun K hK=>?_;simp only[go_sem,c1,c3]
   refine VCall.heap (fz263 bR g (cut co1 n1) _ _ ⟨r.todo,r.word,r.nodes++[(x,[])]⟩ tv1 wv1 nv1 av1 (a4.loc (by omega) fun x hx hx2=>rfl) (finP nd) (show r.todo.length<2^40 by omega)) fun res h2 n2 ⟨b1,b2,co2,tv2,wv2,nv2,av2,b3,b4⟩=>?_
   have hb2:Bs co h n co2 h2 n2:=(hb.loc (h':=_) (n':=_) (by omega) (fun x hx=>rfl)).call b1 b3 b2;simp only[go_sem];refine hK _ _ _ ?_
   first|clear hK K|clear hK|skip
   have m3':=b4.root.2.2;have zR2:∀j,¬bR=n2+j:=fun j=>by have:=b4.root.1;omega
   have zs:g.prods[ξ]?=some p:=hpξ;refine W.rseq (k:=10) rfl fun K hK=>?_;simp only[go_sem,c1,c2,m3',hξ,hpξ];refine hK _ _ _ ?_;clear hK K;refine W.rseq (k:=4) rfl fun K hK=>?_;simp only[go_sem];refine hK _ _ _ ?_;clear hK K
   refine W.block (W.while (fun k t h1 n1=>∃(co1:Co) (tv wv nv:AV) (av:Nat→AV),k≤p.right.length∧Bs co h n co1 h1 n1∧Mac bR g co1 h1 n1 ⟨(p.right.drop k).map (mkP nd)++finP nd::r.todo,r.word,r.nodes++[(x,[])]⟩ tv wv nv av∧t 0=.ptr bR 0 0∧t 4=.int .i64 nd∧t 5=.ro (p.right.map eSy)∧t 6=.int .i64 ((k:Int) - 1)) p.right.length
    ⟨cut co2 n2,tv2,wv2,nv2,av2,Nat.le_refl _,hb2.loc (by omega) (fun x hx=>by simp only[go_sem]), ?_,c1,c3,rfl, ?_⟩ fun k t h1 n1 ⟨co1,tv,wv,nv,av,i1,i2,i3,i4,i5,i6,i7⟩=>?_)
   ·rw[List.drop_length];exact b4.loc (by omega) fun x hx hx2=>by simp only[go_sem]
   ·simp only[go_sem,wrap64 (x:=(p.right.length:Int) - 1) (by omega) (by omega)]
   refine W.seq ?_;refine W.rseq (k:=2) rfl fun K hK=>?_;simp only[go_sem,i7];refine hK _ _ _ ?_;clear hK K
   refine W.cond rfl (fun hc=>?_) fun hc=>?_
   ·refine W.skip ?_;simp only[go_sem];have hk:0<k:=by simp at hc;omega
    obtain⟨q,rfl⟩:∃q,k=q+1:=⟨k - 1,by omega⟩;obtain⟨sy,hs⟩:=get_some (show q<p.right.length by omega)
    have hsd:p.right.drop q=sy::p.right.drop (q+1):=by
     rw[List.drop_eq_getElem_cons (by omega)]
     congr 1
     exact(List.getElem_eq_iff _).2 hs
    have hq1:((q+1:Nat):Int) - 1=(q:Int):=by omega
    refine W.seqk fun K hK=>?_;refine W.block ?_;refine W.draw (k:=10) rfl ?_;simp only[go_sem,i4,i5,i6,i7,hq1,hs]
    refine VCall.heap (fz263 bR g (cut co1 n1) _ _ ⟨(p.right.drop (q+1)).map (mkP nd)++finP nd::r.todo,r.word,r.nodes++[(x,[])]⟩ tv wv nv av (i3.loc (by omega) fun x hx hx2=>rfl) (mkP nd sy) (by simp;omega)) fun res h2 n2 ⟨b1,b2,co2,tv2,wv2,nv2,av2,b3,b4⟩=>?_
    have hb2:Bs co h n co2 h2 n2:=(i2.loc (h':=_) (n':=_) (by omega) (fun x hx=>rfl)).call b1 b3 b2;simp only[go_sem];refine⟨by kernel_rfl, ?_⟩;refine hK _ _ _ ?_;refine W.region (k:=3) rfl ?_;simp only[go_sem,i7,hq1];refine⟨q,by omega,cut co2 n2,tv2,wv2,nv2,av2,by omega,hb2.loc (by omega) (fun x hx=>by simp only[go_sem]), ?_,i4,i5,i6, ?_⟩
    ·rw[hsd];exact b4.loc (by omega) fun x hx hx2=>by simp only[go_sem]
    ·rw[wrap64 (by omega) (by omega)]
   ·refine W.exit ?_;simp only[go_sem];have hk:k=0:=by simp at hc;omega
    subst hk;rw[List.drop_zero] at i3;unfold openF;rw[←hnd];exact(i2.loc (n':=n1+2) (by omega) fun x hx=>rfl).mac (i3.loc (by omega) fun x hx hx2=>rfl)
  clear hK;rcases nv2 with ⟨rfl,hn0⟩|⟨b,rfl,k2,k3,k4⟩
  ·refine W.region (k:=12) rfl ?_;simp only[go_sem,c1,c2,zR,lR,m3,ne_eq,not_false_eq_true,Int.reduceEq,show(0:Nat)<1 by omega,show(0:Nat)<2 by omega,show(0:Nat)<32 by omega];have hr0:r.nodes.length=0:=by omega
   have hA0:rowN r.nodes av=[]:=by rw[←hA];exact List.eq_nil_of_length_eq_zero (by omega)
   refine nx1 _ _ _ c1 c2 c3 ?_;refine m'.setNodes (co':=setc co (n'+8) 3) (b:=n'+8) (by omega) (setc_ext (by omega)) ?_ (by omega) (by simp[setc]) ?_ ?_
   ·simp only[go_sem,hr0]
   ·simp only[go_sem,show ¬n'+8=bR by omega,hA0]
   ·intro y hy hyR hy1;simp only[go_sem,show ∀j,¬y=n'+j from fun j=>by omega,hyR]
  ·have zb:∀j,¬b=n'+j:=fun j=>by omega
   have hRb:¬bR=b:=fun e=>by rw[←e,m2] at k3;injection k3 with k3;omega
   refine W.region (k:=12) rfl ?_;simp only[go_sem,c1,c2,zR,lR,zb,hRb,m3,k4,hAl,Nat.lt_irrefl,and_false,if_false,ne_eq,not_false_eq_true,Int.reduceEq,show(0:Nat)<1 by omega,show(0:Nat)<2 by omega,show(0:Nat)<32 by omega,show(nd+1)*32≤140737488355328 by omega];refine nx1 _ _ _ c1 c2 c3 ?_;refine m'.setNodes (co':=setc co (n'+8) 3) (b:=n'+8) (by omega) (setc_ext (by omega)) ?_ (by omega) (by simp[setc]) ?_ ?_
   ·simp only[go_sem,hnd]
   ·simp only[go_sem,show ¬n'+8=bR by omega,hA]
   ·intro y hy hyR hy1;have hyb:¬y=b:=fun e=>hy1 (by rw[e];exact k3)
    simp only[go_sem,show ∀j,¬y=n'+j from fun j=>by omega,hyR,hyb]
 clear hK;rcases nv2 with ⟨rfl,hn0⟩|⟨b,rfl,k2,k3,k4⟩
 ·simp only[go_sem,zR,lR,m3];exact nx0 _ _ (by omega) rfl rfl (by rw[hn0];rfl)
 ·simp only[go_sem,zR,lR,m3];exact nx0 _ _ (by omega) rfl rfl rfl
end Go.Av
namespace Go.Av
open Go.Proofs
set_option maxRecDepth 100000
theorem run_fine {B:Nat}:∀(t:List Pt) (w:List Int) (ns:List Nd),(⟨t,w,ns⟩:Rs).Fine B→(runF t w ns).2.Fine B∧(runF t w ns).2.nodes.length=ns.length
 |[],w,ns,h=>⟨h,rfl⟩
 |p::t,w,ns,h=>by
  obtain⟨f1,f2⟩:=h.drop rfl;rw[runF];split
  ·obtain⟨a,b⟩:=run_fine t w (hereF w ns p) f1;exact⟨a,b.trans hereF_len⟩
  ·split
   ·exact⟨f1,hereF_len⟩
   ·obtain⟨a,b⟩:=run_fine t (w++[p.s.n]) (hereF w ns p) f2;exact⟨a,b.trans hereF_len⟩
theorem open_fine {B:Nat} {r:Rs} {x:Int} {right:List Sy} (h:r.Fine B) (h8:right.length≤8) (hn:r.nodes.length+1≤B+9):(openF x right r).Fine (B+9):=by
 obtain⟨h1,h2,h3,h4⟩:=h;refine⟨by simp[openF];omega,by simp[openF];omega,fun y hy=>?_,fun p hp=>?_⟩
 ·simp only[openF,List.mem_append,List.mem_singleton] at hy;simp only[openF,List.length_append,List.length_map,List.length_cons];rcases hy with hy|hy
  ·have:=h3 y hy;omega
  ·subst hy;simp only[List.length_nil];omega
 ·simp only[openF,List.mem_append,List.mem_map,List.mem_cons] at hp;simp only[openF,List.length_append,List.length_cons,List.length_nil];rcases hp with ⟨s,_,rfl⟩|rfl|hp
  ·simp only[mkP];omega
  ·simp only[finP];omega
  ·have:=h4 p hp;omega
def replR (g:Gr) (l:List Int) (res:AV) (h':Heap) (n':Nat):Prop:=
 ∃p,res=.tup [p,.int .i64 (replayM g l).1]∧((replayM g l).1=0→∃bR co tv wv nv av,p=.ptr bR 0 0∧Mac bR g co h' n' (replayM g l).2 tv wv nv av)
theorem Mac.new {bR:Nat} {g:Gr} {h:Heap} {n:Nat} (hb:bR<n) (hr:h bR=some (.cells [[.int .i64 g.terms,.int .i64 g.nons,.int .i64 g.start,.ro (g.prods.map ePr),.nils,.nils,.nils]])):Mac bR g (setc (fun _=>none) bR 0) h n ⟨[],[],[]⟩ .nils .nils .nils (fun _=> .nils):=
 ⟨⟨hb,by simp[setc],hr⟩,.inl ⟨rfl,rfl⟩,.inl ⟨rfl,rfl⟩,.inl ⟨rfl,rfl⟩,fun i x h=>by simp at h⟩
set_option maxHeartbeats 8000000 in
theorem fz224 (g:Gr) (hg:g.Small) (l:List Int) (hl:l.length<2^60) (h:Heap) (n:Nat):FH pg Tq 224 [.agg (eGr g),.ro (l.map eIn)] h n fun res h' n'=>replR g l res h' n':=by
 have hg1:g.prods.length<2^60:=hg.1;refine FH.of (N:=77) (rs:=#[.tmp 4,.tmp 5]) Tryz.func224 rfl rfl (of_decide_eq_true rfl) rfl (by decide) ?_;refine W.rseq (k:=3) rfl fun K hK=>?_;simp only[go_sem];refine hK _ _ _ ?_;clear hK K;refine W.seqk fun K hK=>?_
 have nx:∀(t':Fr) (n':Nat),right g=true→l.length≤2000→n<n'→t' 1=.ro (l.map eIn)→t' 2=.ptr n 0 0→K t' (upd h n (some (.cells [eGr g]))) n':=by
  intro t n1 hr h2 hn1 c1 c2;obtain⟨⟨hn1',hn2⟩,_,⟨hs1,hs2⟩,hp60,h5⟩:=right_in hr;refine hK _ _ _ ?_;clear hK;have zn:∀j,¬n=n1+j:=fun j=>by omega
  refine W.rseq (k:=4) rfl fun K hK=>?_;simp only[go_sem,c2,zn];refine hK _ _ _ ?_;clear hK K
  obtain⟨bR,hbR⟩:∃bR,bR=n1+2:=⟨_,rfl⟩;obtain⟨hB,hhB⟩:∃hB,hB=upd (upd h n (some (.cells [[.int .i64 g.terms,.int .i64 g.nons,.int .i64 g.start,.ro (g.prods.map ePr)]]))) bR (some (.cells [[.int .i64 g.terms,.int .i64 g.nons,.int .i64 g.start,.ro (g.prods.map ePr),.nils,.nils,.nils]])):=⟨_,rfl⟩;have hm0:=Mac.new (bR:=bR) (g:=g) (h:=hB) (n:=n1+4+8) (by omega) (by rw[hhB];simp[upd]);have hBn:hB n=some (.cells [eGr g]):=by rw[hhB];simp only[go_sem,show ¬n=bR by omega]
  rw[←hbR];rw[←hhB];have zR:∀j,¬bR=n1+4+j:=fun j=>by omega
  refine W.dseq (k:=8) rfl fun K hK=>?_;simp only[go_sem,c2,hBn,show n<n1+4 by omega]
  refine VCall.heap (fz263 bR g _ _ _ ⟨[],[],[]⟩ .nils .nils .nils (fun _=> .nils) hm0 (startP g) (show(0:Nat)<2^40 by omega)) fun res h2 n2 ⟨b1,b2,co2,tv2,wv2,nv2,av2,b3,b4⟩=>?_
  simp only[go_sem];refine hK _ _ _ _ (by kernel_rfl) ?_;clear hK K;have hzn:setc (fun _=>none) bR 0 n=none:=by simp[setc];omega
  have hb0:Bs (fun _=>none) h n co2 h2 n2:=⟨by omega,fun x hx=>(b3 x (by omega)).trans (by simp[setc];omega),fun x hx _=>(b2 x (by omega) (by simp[setc];omega)).trans (by rw[hhB];simp only[go_sem,show ¬x=bR by omega,show ¬x=n by omega])⟩;have hcn:co2 n=none:=(b3 n (by omega)).trans hzn;have hgn:h2 n=some (.cells [eGr g]):=(b2 n (by omega) hzn).trans hBn;obtain⟨r0,hr0⟩:∃r0:Rs,r0=⟨[startP g],[],[]⟩:=⟨_,rfl⟩;have b4':Mac bR g co2 h2 n2 r0 tv2 wv2 nv2 av2:=by rw[hr0];exact b4
  have hrep:replayM g l=repM g l r0:=by rw[replayM,hr,if_pos rfl,if_neg (by omega),hr0]
  have fine0:r0.Fine 1:=by rw[hr0];exact⟨by simp,by simp,by simp,fun p hp=>by simp at hp;subst hp;simp[startP,mkP]⟩
  have nodes0:r0.nodes.length=0:=by rw[hr0];rfl
  clear b4 hm0 b2 b3 hb0;refine W.seq ?_;refine W.rseq (k:=3) rfl fun K hK=>?_;simp only[go_sem,c1];refine hK _ _ _ ?_;clear hK K
  refine W.block (W.while (fun k t h1 n1=>∃(i:Nat) (r1:Rs) (co1:Co) (tv wv nv:AV) (av:Nat→AV),k=l.length - i∧i≤l.length∧n<n1∧r1.Fine (9*i+1)∧r1.nodes.length=i∧repM g (l.drop i) r1=repM g l r0∧Mac bR g co1 h1 n1 r1 tv wv nv av∧co1 n=none∧h1 n=some (.cells [eGr g])∧(t 2=.ptr n 0 0∧t 6=.ptr bR 0 0∧t 32=.ro (l.map eIn)∧t 33=.int .i64 l.length)∧t 34=.int .i64 i) l.length
   ⟨0,r0,cut co2 n2,tv2,wv2,nv2,av2,by simp,by simp,by omega,fine0,nodes0,rfl,b4'.loc (by omega) (fun x hx hx2=>by simp only[go_sem]),by rw[cut_lt (by omega)];exact hcn,by simp only[go_sem,hgn],⟨c2,rfl,rfl,rfl⟩,rfl⟩ fun k t h1 n1 ⟨i,r1,co1,tv,wv,nv,av,i1,i2,i3,i4,i5,i6,i7,i8,i9,i10,i11⟩=>?_)
  clear c1 c2;have i10':=i10;obtain⟨c2,c6,c32,c33⟩:=i10';refine W.rseq (k:=1) rfl fun K hK=>?_;simp only[go_sem,c33,i11];refine hK _ _ _ ?_;clear hK K;refine W.seq ?_
  refine W.cond rfl (fun hc=>?_) fun hc=>?_
  ·refine W.skip ?_;simp only[go_sem];have hi:i<l.length:=by simp at hc;omega
   obtain⟨x,hx⟩:=get_some hi
   have hd:l.drop i=x::l.drop (i+1):=by
    rw[List.drop_eq_getElem_cons hi]
    congr 1
    exact(List.getElem_eq_iff hi).2 hx
   rw[hd,repM] at i6;refine W.seq (W.block ?_);refine W.rseq (k:=3) rfl fun K hK=>?_;simp only[go_sem,c32,i11,hx];refine hK _ _ _ ?_;clear hK K;refine W.rseq (k:=7) rfl fun K hK=>?_;simp only[go_sem,c6]
   refine VCall.heap (fz264 bR g (cut co1 n1) _ _ r1 tv wv nv av (i7.loc (by omega) fun x hx hx2=>rfl) (9*i+1) (by omega) i4) fun res h3 n3 hres=>?_
   unfold runR at hres;obtain⟨fine3,len3⟩:=run_fine r1.todo r1.word r1.nodes i4;rcases hrun:runF r1.todo r1.word r1.nodes with ⟨o,r'⟩
   rw[hrun] at hres fine3 len3 i6;simp only at hres fine3 len3 i6;obtain⟨rfl,b1,b2,co3,tv3,wv3,nv3,av3,b3,b4⟩:=hres;have hn3:co3 n=none:=(b3 n (by omega)).trans (by rw[cut_lt i3];exact i8);have hg3:h3 n=some (.cells [eGr g]):=(b2 n (by omega) (by rw[cut_lt i3];exact i8)).trans (by simp only[go_sem,i9]);simp only[go_sem];refine hK _ _ _ ?_
   first|clear hK K|clear hK|skip
   have bad:(2,r')=repM g l r0→∀(h':Heap) (n':Nat),replR g l (.tup [.nilp,.int .i64 2]) h' n':=fun e h' n'=>by
    unfold replR;rw[hrep,←e];exact⟨.nilp,rfl,fun h0=>by cases h0⟩
   cases o with
   |none=>
    simp only at i6;refine W.seq ?_;refine W.rseq (k:=23) rfl fun K hK=>?_;simp only[go_sem,Option.isSome_none];refine hK _ _ _ ?_;clear hK K;refine W.condT (by simp only[go_sem]) ?_;refine W.rseq (k:=2) rfl fun K hK=>?_;simp only[go_sem];refine hK _ _ _ ?_;clear hK K;refine W.ret ?_;simp only[go_sem]
    exact bad i6 _ _
   |some ν=>
    simp only at i6;by_cases hx0:x<0
    ·have hok:okP g x ν=none:=by rw[okP,if_neg (by omega)]
     rw[hok] at i6;refine W.seq ?_;refine W.rseq (k:=23) rfl fun K hK=>?_;simp only[go_sem,Option.isSome_some,show decide (x<0)=true from decide_eq_true hx0];refine hK _ _ _ ?_;clear hK K;refine W.condT (by simp only[go_sem]) ?_;refine W.rseq (k:=2) rfl fun K hK=>?_;simp only[go_sem];refine hK _ _ _ ?_;clear hK K;refine W.ret ?_;simp only[go_sem]
     exact bad i6 _ _
    obtain⟨ξ,rfl⟩:∃ξ:Nat,x=ξ:=⟨x.toNat,by omega⟩;by_cases hxl:(g.prods.length:Int)≤(ξ:Int)
    ·have hok:okP g ξ ν=none:=by
      rw[okP,if_pos (by omega),List.getElem?_eq_none (by omega)];rfl
     rw[hok] at i6;refine W.seq ?_;refine W.rseq (k:=23) rfl fun K hK=>?_;simp only[go_sem,Option.isSome_some,c2,hg3,show decide ((ξ:Int)<0)=false from decide_eq_false hx0,show decide ((ξ:Int)≥(g.prods.length:Int))=true from decide_eq_true hxl];refine hK _ _ _ ?_;clear hK K;refine W.condT (by simp only[go_sem]) ?_;refine W.rseq (k:=2) rfl fun K hK=>?_;simp only[go_sem];refine hK _ _ _ ?_;clear hK K;refine W.ret ?_;simp only[go_sem]
     exact bad i6 _ _
    obtain⟨p,hp⟩:=get_some (show ξ<g.prods.length by omega);by_cases hpl:¬p.left=ν
    ·have hok:okP g ξ ν=none:=by
      rw[okP,if_pos (by omega),Int.toNat_natCast,hp];simp[hpl]
     rw[hok] at i6;refine W.seq ?_;refine W.rseq (k:=23) rfl fun K hK=>?_;simp only[go_sem,Option.isSome_some,Option.getD_some,c2,hg3,show decide ((ξ:Int)<0)=false from decide_eq_false hx0,show decide ((ξ:Int)≥(g.prods.length:Int))=false from decide_eq_false hxl,hp,show decide (p.left=ν)=false from decide_eq_false hpl];refine hK _ _ _ ?_;clear hK K;refine W.condT (by simp only[go_sem]) ?_;refine W.rseq (k:=2) rfl fun K hK=>?_;simp only[go_sem];refine hK _ _ _ ?_;clear hK K;refine W.ret ?_;simp only[go_sem]
     exact bad i6 _ _
    replace hpl:=Decidable.of_not_not hpl
    have hok:okP g ξ ν=some p:=by
     rw[okP,if_pos (by omega),Int.toNat_natCast,hp];simp[hpl]
    rw[hok] at i6;simp only at i6;have h8:p.right.length≤8:=(h5 p (List.mem_of_getElem? hp)).2.1;refine W.seq ?_;refine W.rseq (k:=23) rfl fun K hK=>?_;simp only[go_sem,Option.isSome_some,Option.getD_some,c2,hg3,show decide ((ξ:Int)<0)=false from decide_eq_false hx0,show decide ((ξ:Int)≥(g.prods.length:Int))=false from decide_eq_false hxl,hp,hpl];refine hK _ _ _ ?_;clear hK K;refine W.condF (by simp only[go_sem]) ?_;refine W.skip ?_;simp only[go_sem];refine W.region (k:=3) rfl ?_;simp only[go_sem,c6]
    have tl:r'.todo.length<2^30:=by have:=fine3.sum;omega
    have nl:r'.nodes.length<2^30:=by omega
    refine VCall.heap (fz265 bR g (cut co3 n3) _ _ r' tv3 wv3 nv3 av3 (b4.loc (by omega) fun x hx hx2=>rfl) (ξ:Int) p (by omega) (by rw[Int.toNat_natCast];exact hp) h8 tl nl) fun res h4 n4 ⟨d1,d2,co4,tv4,wv4,nv4,av4,d3,d4⟩=>?_
    have hn4:co4 n=none:=(d3 n (by omega)).trans (by rw[cut_lt (by omega)];exact hn3);have hg4:h4 n=some (.cells [eGr g]):=(d2 n (by omega) (by rw[cut_lt (by omega)];exact hn3)).trans hg3;simp only[go_sem];refine W.region (k:=2) rfl ?_;simp only[go_sem,i11];refine⟨l.length - (i+1),by omega,i+1,openF ξ p.right r',cut co4 n4,tv4,wv4,nv4,av4,rfl,by omega,by omega, ?_, ?_, ?_,d4.loc (by omega) (fun x hx hx2=>by simp only[go_sem]),by rw[cut_lt (by omega)];exact hn4,by simp only[go_sem,hg4],⟨c2,c6,c32,c33⟩, ?_⟩
    ·have hfo:=open_fine (x:=(ξ:Int)) fine3 h8 (by omega);rwa[show 9*i+1+9=9*(i+1)+1 by omega] at hfo
    ·simp[openF];omega
    ·rw[←i6]
    ·rw[wrap64 (by omega) (by omega)];rfl
  ·refine W.exit ?_;simp only[go_sem];have hi:i=l.length:=by simp at hc;omega
   subst hi;rw[List.drop_length,repM] at i6;refine W.seq ?_;refine W.rseq (k:=7) rfl fun K hK=>?_;simp only[go_sem,c6]
   refine VCall.heap (fz264 bR g (cut co1 n1) _ _ r1 tv wv nv av (i7.loc (by omega) fun x hx hx2=>rfl) (9*l.length+1) (by omega) i4) fun res h3 n3 hres=>?_
   unfold runR at hres;rcases hrun:runF r1.todo r1.word r1.nodes with ⟨o,r'⟩
   rw[hrun] at hres i6;simp only at hres i6;obtain⟨rfl,b1,b2,co3,tv3,wv3,nv3,av3,b3,b4⟩:=hres;simp only[go_sem];refine hK _ _ _ ?_
   first|clear hK K|clear hK|skip
   refine W.rseq (k:=1) rfl fun K hK=>?_;simp only[go_sem];refine hK _ _ _ ?_;clear hK K
   cases o with
   |none=>
    simp only at i6;refine W.condF (by simp only[go_sem,Option.isSome_none]) ?_;refine W.skip ?_;simp only[go_sem];refine W.rseq (k:=3) rfl fun K hK=>?_;simp only[go_sem,c6];refine hK _ _ _ ?_;clear hK K;refine W.ret ?_;simp only[go_sem]
    refine⟨_,by rw[hrep,←i6],fun _=>⟨bR,co3,tv3,wv3,nv3,av3,rfl, ?_⟩⟩;rw[hrep,←i6];exact b4.next (by omega) (CoExt.rfl' _ _) fun x hx hx2=>by simp only[go_sem]
   |some ν=>
    simp only at i6;refine W.condT (by simp only[go_sem,Option.isSome_some]) ?_;refine W.rseq (k:=2) rfl fun K hK=>?_;simp only[go_sem];refine hK _ _ _ ?_;clear hK K;refine W.ret ?_;simp only[go_sem]
    refine⟨_,by rw[hrep,←i6],fun h0=>?_⟩;rw[hrep,←i6] at h0;cases h0
 clear hK;refine W.block ?_;have zn:∀j,¬n=n+1+j:=fun j=>by omega
 refine W.rseq (k:=4) rfl fun K hK=>?_;simp only[go_sem];refine VCall.frz 6 (fz57 g hg) rfl ?_;try simp only[go_sem];refine hK _ _ _ ?_;clear hK K
 cases hr:right g
 ·refine W.condT (by simp only[go_sem]) ?_;refine W.rseq (k:=2) rfl fun K hK=>?_;simp only[go_sem];refine hK _ _ _ ?_;clear hK K;refine W.ret ?_;simp only[go_sem]
  have:replayM g l=(1,⟨[],[],[]⟩):=by rw[replayM,hr];rfl
  unfold replR;rw[this];exact⟨_,rfl,fun h0=>by cases h0⟩
 refine W.condF (by simp only[go_sem]) ?_;by_cases h2:(2000:Int)<l.length
 ·refine W.rseq (k:=4) rfl fun K hK=>?_;simp only[go_sem,show decide ((2000:Int)<l.length)=true from decide_eq_true h2];refine hK _ _ _ ?_;clear hK K;refine W.condT (by simp only[go_sem]) ?_;refine W.rseq (k:=2) rfl fun K hK=>?_;simp only[go_sem];refine hK _ _ _ ?_;clear hK K;refine W.ret ?_;simp only[go_sem]
  have:replayM g l=(5,⟨[],[],[]⟩):=by rw[replayM,hr,if_pos rfl,if_pos (by omega)]
  unfold replR;rw[this];exact⟨_,rfl,fun h0=>by cases h0⟩
 ·refine W.rseq (k:=4) rfl fun K hK=>?_;simp only[go_sem,show decide ((2000:Int)<l.length)=false from decide_eq_false h2];refine hK _ _ _ ?_;clear hK K;refine W.condF (by simp only[go_sem]) ?_;refine W.skip ?_;simp only[go_sem]
  exact nx _ _ hr (by omega) (by omega) rfl rfl
end Go.Av
namespace Go.Av
open Go.Proofs
set_option maxRecDepth 100000
theorem SlC.frz {α:Type} {e:α→List AV} {sz c:Nat} {co:Co} {fr:Bool} {h:Heap} {n d:Nat} {v:AV} {l:List α} (s:SlC e sz c co h n v l) (he:∀x∈l,rfs fr d h (e x)=some (e x)):rf fr (d+2) h v=some (.ro (l.map e)):=by
 rcases s with ⟨rfl,rfl⟩|⟨b,rfl,_,_,s⟩
 ·simp[rf]
 ·exact rf_sla s (by simp) (rfe_map he)
theorem Mac.wordF {bR:Nat} {g:Gr} {co:Co} {h:Heap} {n:Nat} {r:Rs} {tv wv nv:AV} {av:Nat→AV} (m:Mac bR g co h n r tv wv nv av) (fr:Bool) (d:Nat):rf fr (d+4) h wv=some (.ro (r.word.map eIn)):=
 m.word.frz (d:=d+2) fun x _=>by simp[rfs,rf,eIn]
theorem rf_tup2 {fr:Bool} {d:Nat} {h:Heap} {v v':AV} {k:IntKind} {n:Int} (hv:rf fr d h v=some v') (hd:0<d):rf fr (d+2) h (.tup [v,.int k n])=some (.tup [v',.int k n]):=by
 obtain⟨d,rfl⟩:∃e,d=e+1:=⟨d - 1,by omega⟩;have h1:rfs fr (d+2) h [v,.int k n]=some [v',.int k n]:=rfs_cons hv (rfs_cons rfl rfs_nil);rw[rf,h1]
theorem fz167 (g:Gr) (hg:g.Small) (l:List Int) (hl:l.length<2^60):PF pg Tq 167 [.agg (eGr g),.ro (l.map eIn)] (.tup [.ro ((replayL g l).2.map eIn),.int .i64 (replayL g l).1]):=by
 obtain⟨s1,s2⟩:=replay_same g l
 have fin:FH pg Tq 167 [.agg (eGr g),.ro (l.map eIn)] h0 0 fun r h n=>∃v,r=.tup [v,.int .i64 (replayL g l).1]∧∀fr,rf fr 4 h v=some (.ro ((replayL g l).2.map eIn)):=by
  refine FH.of (N:=21) (rs:=#[.tmp 4,.tmp 5]) Tryz.func167 rfl rfl (of_decide_eq_true rfl) rfl (by decide) ?_;refine W.rseq (k:=3) rfl fun K hK=>?_;simp only[go_sem];refine hK _ _ _ ?_;clear hK K;refine W.rseq (k:=8) rfl fun K hK=>?_;simp only[go_sem]
  refine VCall.heap (fz224 g hg l hl _ _) fun res h1 n1 ⟨p,hres,hm⟩=>?_
  subst hres;simp only[go_sem];refine hK _ _ _ ?_
  first|clear hK K|clear hK|skip
  rw[s1] at hm;refine W.seq ?_;refine W.rseq (k:=2) rfl fun K hK=>?_;simp only[go_sem,s1];refine hK _ _ _ ?_;clear hK K
  by_cases he:(replayL g l).1=0
  ·obtain⟨bR,co,tv,wv,nv,av,rfl,m⟩:=hm he;have m3:=m.root.2.2;have zR:∀j,¬bR=n1+j:=fun j=>by have:=m.root.1;omega
   refine W.condF (by simp only[go_sem,he]) ?_;refine W.skip ?_;simp only[go_sem];refine W.rseq (k:=6) rfl fun K hK=>?_;simp only[go_sem,m3,zR];refine hK _ _ _ ?_;clear hK K;refine W.ret ?_;simp only[go_sem]
   refine⟨_,by rw[he],fun fr=>?_⟩;rw[s2,if_pos (s1.trans he)];exact(m.next (n':=n1+8) (co':=co) (by omega) (CoExt.rfl' _ _) fun x hx hx2=>by simp only[go_sem]).wordF fr 0
  ·refine W.condT (by simp only[go_sem,show decide ((replayL g l).1=0)=false from decide_eq_false he]) ?_;refine W.rseq (k:=3) rfl fun K hK=>?_;simp only[go_sem];refine hK _ _ _ ?_;clear hK K;refine W.ret ?_;simp only[go_sem]
   refine⟨.nils,rfl,fun fr=>?_⟩;rw[s2,if_neg (by rw[s1];exact he)];simp[rf]
 obtain⟨r,h',n',hb,v,rfl,hv⟩:=fin;exact⟨_,h',n',hb,6,fun fr=>rf_tup2 (hv fr) (by omega)⟩
end Go.Av
