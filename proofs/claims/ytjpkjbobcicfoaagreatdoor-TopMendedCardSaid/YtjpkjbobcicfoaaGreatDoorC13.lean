/-
  Layer 13, the plain law: steps at the left. Conditions: none.
-/
import Derived.Test.YtjpkjbobcicfoaaGreatDoorR3
import Derived.Test.YtjpkjbobcicfoaaGreatDoorG1
set_option linter.unusedSimpArgs false
set_option linter.unusedVariables false
namespace Go.Av
open Go.Proofs
set_option maxRecDepth 100000
def allIdx (q:Nat→Fc→Bool) (l:List Fc):Bool:=l.zipIdx.all fun x=>q x.2 x.1
theorem all_true {q:Nat→Fc→Bool} {l:List Fc} (h:∀j f,l[j]?=some f→q j f=true):allIdx q l=true:=by
 simp only[allIdx,List.all_eq_true];intro x hx;obtain⟨f,j⟩:=x;exact h j f (List.mk_mem_zipIdx_iff_getElem?.1 hx)
def showR (g:Gr) (l:List Fc) (x:Nat) (f:Fc):Bool:=
 decide ((x:Int)=g.start)||(decide (f.1=0) && decide (f.2=0))||(decide (1≤f.1) && decide (0≤f.2) && match g.prods[f.2.toNat]? with
  |some p=>decide (1≤rk l p.left) && decide (rk l p.left<f.1) && stands p x
  |none=>false)
def Upto (q:Nat→Fc→Bool) (l:List Fc) (k:Nat):Prop:=∀j f,j<k→l[j]?=some f→q j f=true
theorem Upto.all {q:Nat→Fc→Bool} {l:List Fc} (h:Upto q l l.length):allIdx q l=true:=all_true fun j f hj=>h j f (List.getElem?_eq_some_iff.1 hj).1 hj
end Go.Av
namespace Go.Av
open Go.Proofs
def nextX (g:Gr) (rank:Int) (l:List Fc) (x:Nat):Fc:=
 if rk l x=0 then match g.prods.findIdx? (fun p=>decide (rk l p.left=rank) && stands p x) with
  |some q=>(rank+1,(q:Int))
  |none=>l.getD x (0,0)
 else l.getD x (0,0)
def nextRL (g:Gr) (rank:Int) (l:List Fc):List Fc:=(List.range l.length).map (nextX g rank l)
theorem nextRL_len {g:Gr} {rank:Int} {l:List Fc}:(nextRL g rank l).length=l.length:=by simp[nextRL]
def SameAt (rank:Int) (l l':List Fc):Prop:=∀n:Int,rk l' n=rank↔rk l n=rank
theorem same_set {rank v i:Int} {l:List Fc} {a:Nat} (h1:1≤rank) (h0:rk l (a:Int)=0) (hv:v≠rank):SameAt rank l (l.set a (v,i)):=by
 intro n;rw[rk_set];split
 ·rename_i e
  have:rk l n=0:=by rw[←h0];unfold rk;rw[Int.toNat_natCast,e.1]
  simp only[this];omega
 ·exact Iff.rfl
theorem foldS_at {rank:Int} (hr:1≤rank) {j:Nat}:∀(ys:List Sy) (s:List Fc×Bool),(∀y∈ys,y.non=true→0≤y.n)→
  (∀x,x<s.1.length→(ys.foldl (reachS rank j) s).1.getD x (0,0)=if rk s.1 x=0∧ys.any (isN x)=true then (rank+1,(j:Int)) else s.1.getD x (0,0))∧SameAt rank s.1 (ys.foldl (reachS rank j) s).1
 |[],s,_=>⟨fun x hx=>by simp,fun n=>Iff.rfl⟩
 |y::ys,s,h=>by
  rw[List.foldl_cons];have hy:=h y (by simp);by_cases c:y.non=true∧rk s.1 y.n=0
  ·have e:reachS rank j s y=(s.1.set y.n.toNat (rank+1,(j:Int)),true):=by simp only[reachS,c,and_self,if_true]
   have hn:((y.n.toNat:Nat):Int)=y.n:=by have:=hy c.1;omega
   obtain⟨ih1,ih2⟩:=foldS_at hr ys (s.1.set y.n.toNat (rank+1,(j:Int)),true) (fun y hy=>h y (by simp[hy]));rw[e];refine⟨fun x hx=>?_,fun n=>(ih2 n).trans (same_set hr (by rw[hn];exact c.2) (by omega) n)⟩;rw[ih1 x (by simpa using hx)];by_cases ex:y.n=(x:Int)
   ·have ex':y.n.toNat=x:=by omega
    have r1:rk (s.1.set y.n.toNat (rank+1,(j:Int))) (x:Int)=rank+1:=by rw[rk_set,if_pos ⟨by omega,by omega⟩]
    have r2:rk s.1 (x:Int)=0:=by rw[←ex];exact c.2
    have r3:(y::ys).any (isN x)=true:=by simp[isN,c.1,ex]
    rw[r1,r2,r3,if_neg (by intro h;have:=h.1;omega),if_pos ⟨rfl,rfl⟩];simp[ex',hx,List.getD_eq_getElem?_getD]
   ·have ex':¬y.n.toNat=x:=by omega
    have r1:rk (s.1.set y.n.toNat (rank+1,(j:Int))) (x:Int)=rk s.1 x:=by rw[rk_set,if_neg (by omega)]
    have r3:(y::ys).any (isN x)=ys.any (isN x):=by simp[isN,ex]
    have r4:(s.1.set y.n.toNat (rank+1,(j:Int))).getD x (0,0)=s.1.getD x (0,0):=by simp[List.getD_eq_getElem?_getD,List.getElem?_set,ex']
    rw[r1,r3,r4]
  ·have e:reachS rank j s y=s:=by simp only[reachS,c,if_false]
   obtain⟨ih1,ih2⟩:=foldS_at hr ys s (fun y hy=>h y (by simp[hy]));rw[e];refine⟨fun x hx=>?_,ih2⟩;rw[ih1 x hx];by_cases hz:rk s.1 (x:Int)=0
   ·have r3:isN x y=false:=by
     unfold isN;by_cases hn:y.non=true
     ·by_cases hx:y.n=(x:Int)
      ·exact(c ⟨hn,by rw[hx];exact hz⟩).elim
      ·simp[hx]
     ·simp[hn]
    have r4:(y::ys).any (isN x)=ys.any (isN x):=by simp[r3]
    rw[r4]
   ·simp[hz]
theorem foldP_at {rank:Int} (hr:1≤rank) {l:List Fc}:∀(ps:List Pr) (j:Nat) (s:List Fc×Bool),SameAt rank l s.1→(∀p∈ps,∀y∈p.right,y.non=true→0≤y.n)→∀x,x<s.1.length→
  ((ps.zipIdx j).foldl (reachP rank) s).1.getD x (0,0)=if rk s.1 x=0 then (match ps.findIdx? (fun p=>decide (rk l p.left=rank) && stands p x) with
    |some q=>(rank+1,((q+j:Nat):Int))
    |none=>s.1.getD x (0,0)) else s.1.getD x (0,0)
 |[],j,s,_,_,x,hx=>by simp
 |p::ps,j,s,hS,h,x,hx=>by
  rw[List.zipIdx_cons,List.foldl_cons,List.findIdx?_cons];by_cases c:rk s.1 p.left=rank
  ·have e:reachP rank s (p,j)=p.right.foldl (reachS rank j) s:=by simp only[reachP,c,if_true]
   have cl:rk l p.left=rank:=(hS _).1 c;obtain⟨a1,a2⟩:=foldS_at hr (j:=j) p.right s (h p (by simp));have hlen:(p.right.foldl (reachS rank j) s).1.length=s.1.length:=foldS_len _ _;rw[e,foldP_at hr ps (j+1) _ (fun n=>(a2 n).trans (hS n)) (fun q hq=>h q (by simp[hq])) x (by rw[hlen];exact hx)]
   have hrk:rk (p.right.foldl (reachS rank j) s).1 x=(if rk s.1 x=0∧p.right.any (isN x)=true then rank+1 else rk s.1 x):=by
    have:=congrArg (·.1) (a1 x hx);unfold rk;rw[Int.toNat_natCast,this];split
    ·rename_i hh;rw[if_pos];unfold rk at hh;simpa using hh
    ·rename_i hh;rw[if_neg];unfold rk at hh;simpa using hh
   rw[a1 x hx,hrk];by_cases hz:rk s.1 (x:Int)=0
   ·by_cases hst:p.right.any (isN x)=true
    ·have hst':stands p x=true:=hst;simp only[hz,hst,and_self,if_true,cl,decide_true,hst',Bool.and_self];rw[if_neg (by omega)];simp
    ·have hst':stands p x=false:=by unfold stands;simpa using hst
     simp only[hz,hst,and_false,if_false,if_true,cl,decide_true,hst',Bool.and_false,Bool.false_eq_true]
     cases ps.findIdx? (fun p=>decide (rk l p.left=rank) && stands p x) with
     |none=>rfl
     |some q=>simp;omega
   ·simp[hz]
  ·have e:reachP rank s (p,j)=s:=by simp only[reachP,c,if_false]
   have cl:¬rk l p.left=rank:=fun h=>c ((hS _).2 h)
   rw[e,foldP_at hr ps (j+1) s hS (fun q hq=>h q (by simp[hq])) x hx];by_cases hz:rk s.1 (x:Int)=0
   ·simp only[hz,if_true,cl,decide_false,Bool.false_and,Bool.false_eq_true,if_false]
    cases ps.findIdx? (fun p=>decide (rk l p.left=rank) && stands p x) with
    |none=>rfl
    |some q=>simp;omega
   ·simp[hz]
theorem reachR_next {g:Gr} {rank:Int} {l:List Fc} (hr:1≤rank) (h:g.In l):(reachR g rank l).1=nextRL g rank l:=by
 refine List.ext_getElem (by rw[reachR_len,nextRL_len]) fun x h1 h2=>?_
 rw[reachR_len] at h1;have e:=foldP_at hr g.prods 0 (l,false) (fun n=>Iff.rfl) (fun p hp y hy hn=>((h p hp).2 y hy hn).1) x h1;have e1:(reachR g rank l).1.getD x (0,0)=(reachR g rank l).1[x]'(by rw[reachR_len];exact h1):=by simp[reachR_len,h1]
 rw[←e1];show((g.prods.zipIdx).foldl (reachP rank) (l,false)).1.getD x (0,0)=_;rw[e];simp only[nextRL,List.getElem_map,List.getElem_range,nextX];rfl
theorem refN_same {g:Gr} {rank:Int} {l:List Fc} {x:Nat} (hr:1≤rank):SameAt rank l (refN g (rank+1) l x):=by
 unfold refN;split
 ·rename_i h0
  split
  ·exact same_set hr h0 (by omega)
  ·exact fun n=>Iff.rfl
 ·exact fun n=>Iff.rfl
theorem foldN_at {g:Gr} {rank:Int} (hr:1≤rank) {l:List Fc}:∀k,k≤l.length→SameAt rank l ((List.range k).foldl (refN g (rank+1)) l)∧
  ∀x,x<l.length→((List.range k).foldl (refN g (rank+1)) l).getD x (0,0)=if x<k then nextX g rank l x else l.getD x (0,0)
 |0,_=>⟨fun n=>Iff.rfl,fun x _=>by simp⟩
 |k+1,hk=>by
  obtain⟨i1,i2⟩:=foldN_at (g:=g) hr (l:=l) k (by omega);rw[List.range_succ,List.foldl_append,List.foldl_cons,List.foldl_nil];have hlen:((List.range k).foldl (refN g (rank+1)) l).length=l.length:=foldN_len _ _;generalize (List.range k).foldl (refN g (rank+1)) l=s at*;refine⟨fun n=>(refN_same hr n).trans (i1 n),fun x hx=>?_⟩;have hk1:=i2 k (by omega);rw[if_neg (by omega)] at hk1;have hkr:rk s (k:Int)=rk l k:=by unfold rk;rw[Int.toNat_natCast,hk1]
  have hQ:refQ (rank+1) s k=fun p=>decide (rk l p.left=rank) && stands p k:=by
   funext p;unfold refQ;rw[show rank+1 - 1=rank by omega,Bool.and_comm]
   congr 1
   exact decide_eq_decide.2 (i1 _)
  by_cases e:x=k
  ·subst e;rw[if_pos (by omega)];unfold refN nextX;rw[hkr,hQ];split
   ·split
    ·rename_i q hq;rw[hq];simp[hlen,hx,List.getD_eq_getElem?_getD]
    ·rename_i hq;rw[hq];exact hk1
   ·exact hk1
  ·have:(refN g (rank+1) s k).getD x (0,0)=s.getD x (0,0):=by
    unfold refN;split
    ·split
     ·simp[List.getD_eq_getElem?_getD,List.getElem?_set,Ne.symm e]
     ·rfl
    ·rfl
   rw[this,i2 x hx];by_cases h1:x<k
   ·rw[if_pos h1,if_pos (by omega)]
   ·rw[if_neg h1,if_neg (by omega)]
theorem refR_next {g:Gr} {rank:Int} {l:List Fc} (hr:1≤rank):refR g (rank+1) l=nextRL g rank l:=by
 refine List.ext_getElem (by rw[refR_len,nextRL_len]) fun x h1 h2=>?_
 rw[refR_len] at h1;have e:=(foldN_at (g:=g) hr (l:=l) l.length (Nat.le_refl _)).2 x h1;have e1:(refR g (rank+1) l).getD x (0,0)=(refR g (rank+1) l)[x]'(by rw[refR_len];exact h1):=by simp[refR_len,h1]
 rw[←e1];unfold refR;rw[e,if_pos h1];simp only[nextRL,List.getElem_map,List.getElem_range]
theorem foldS_flag {rank:Int} {j:Nat}:∀(ys:List Sy) (s:List Fc×Bool),(ys.foldl (reachS rank j) s).2=false→ys.foldl (reachS rank j) s=s
 |[],s,_=>rfl
 |y::ys,s,h=>by
  rw[List.foldl_cons] at h ⊢;have ih:=foldS_flag ys _ h;rw[ih] at h ⊢;unfold reachS at h ⊢;split
  ·rename_i c;rw[if_pos c] at h;cases h
  ·rfl
theorem foldP_flag {rank:Int}:∀(xs:List (Pr×Nat)) (s:List Fc×Bool),(xs.foldl (reachP rank) s).2=false→xs.foldl (reachP rank) s=s
 |[],s,_=>rfl
 |x::xs,s,h=>by
  rw[List.foldl_cons] at h ⊢;have ih:=foldP_flag xs _ h;rw[ih] at h ⊢;unfold reachP at h ⊢;split
  ·rename_i c;rw[if_pos c] at h;exact foldS_flag _ _ h
  ·rfl
theorem rk_nextRL {g:Gr} {rank:Int} {l:List Fc} {n:Int}:rk (nextRL g rank l) n=rk l n∨(rk l n=0∧rk (nextRL g rank l) n=rank+1):=by
 unfold rk;by_cases hx:n.toNat<l.length
 ·have e:(nextRL g rank l).getD n.toNat (0,0)=nextX g rank l n.toNat:=by simp[nextRL,hx,List.getD_eq_getElem?_getD]
  rw[e];unfold nextX;split
  ·rename_i h0
   split
   ·exact .inr ⟨by unfold rk at h0;rwa[Int.toNat_natCast] at h0,rfl⟩
   ·exact .inl rfl
  ·exact .inl rfl
 ·have e:(nextRL g rank l).getD n.toNat (0,0)=(0,0):=by
   rw[List.getD_eq_getElem?_getD,List.getElem?_eq_none (by rw[nextRL_len];omega)];rfl
  have e2:l.getD n.toNat (0,0)=(0,0):=by
   rw[List.getD_eq_getElem?_getD,List.getElem?_eq_none (by omega)];rfl
  rw[e,e2];exact .inl rfl
theorem Bd_nextRL {g:Gr} {rank:Int} {l:List Fc} (hr:1≤rank) (hb:Bd l rank):Bd (nextRL g rank l) (rank+1):=by
 intro n;have:=hb n;rcases rk_nextRL (g:=g) (rank:=rank) (l:=l) (n:=n) with e|⟨_,e⟩<;>rw[e]<;>omega
theorem nextRL_top {g:Gr} {rank b:Int} {l:List Fc} (hb:Bd l b) (h:b<rank):nextRL g rank l=l:=by
 refine List.ext_getElem (by rw[nextRL_len]) fun x h1 h2=>?_
 simp only[nextRL,List.getElem_map,List.getElem_range,nextX]
 have:g.prods.findIdx? (fun p=>decide (rk l p.left=rank) && stands p x)=none:=by
  rw[List.findIdx?_eq_none_iff];intro p _;have:=hb p.left;simp;omega
 rw[this];have hd:l.getD x (0,0)=l[x]:=by simp[h2]
 split<;>exact hd
theorem refLoop_stay {g:Gr} {l:List Fc} {b:Int} (hb:Bd l b):∀(m:Nat) (rank:Int),1≤rank→b<rank→refLoop g m (rank+1) l=l
 |0,_,_,_=>rfl
 |m+1,rank,h1,h=>by rw[refLoop,refR_next h1,nextRL_top hb h,refLoop_stay hb m (rank+1) (by omega) (by omega)]
theorem reach_loop {g:Gr}:∀(m k:Nat) (rank:Int) (l:List Fc),1≤rank→Bd l rank→g.In l→zeros l≤m→m≤k→reachLoop g (k+1) rank l=refLoop g m (rank+1) l:=by
 intro m
 induction m with
 |zero=>
  intro k rank l hr hb hi hz hk
  have h2:(reachR g rank l).2=false:=by
   cases h:(reachR g rank l).2 with
   |false=>rfl
   |true=>have:=reachR_zeros hr hi h;omega
  have h3:(reachR g rank l).1=l:=congrArg (·.1) (foldP_flag _ _ h2);rw[reachLoop,h2,if_neg (by simp),refLoop,h3]
 |succ m ih=>
  intro k rank l hr hb hi hz hk;obtain⟨k',rfl⟩:∃k',k=k'+1:=⟨k - 1,by omega⟩;have hn:=reachR_next hr hi
  cases h:(reachR g rank l).2 with
  |false=>
   have h3:(reachR g rank l).1=l:=congrArg (·.1) (foldP_flag _ _ h);rw[reachLoop,h,if_neg (by simp),refLoop,refR_next hr,←hn,h3,refLoop_stay hb m (rank+1) (by omega) (by omega)]
  |true=>
   have hz':=reachR_zeros hr hi h;rw[reachLoop,h,if_pos rfl,refLoop,refR_next hr,hn];rw[hn] at hz';exact ih k' (rank+1) _ (by omega) (Bd_nextRL hr hb) (hi.of nextRL_len) (by omega) (by omega)
theorem Bd_I {g:Gr}:Bd (reachI g) 1:=by
 intro n;unfold reachI;rw[rk_set];split
 ·decide
 ·have:=Bd_zero (n:=g.nons.toNat) n;omega
theorem zeros_I {g:Gr} (h:right g=true):zeros (reachI g)≤g.nons.toNat - 1:=by
 obtain⟨⟨hn1,_⟩,_,⟨hs1,hs2⟩,_⟩:=right_in h
 have h0:rk (List.replicate g.nons.toNat ((0,0):Fc)) g.start=0:=by
  have:=Bd_zero (n:=g.nons.toNat) g.start;omega
 have:=zeros_set (l:=List.replicate g.nons.toNat ((0,0):Fc)) (n:=g.start) (f:=(1,0)) hs1 (by simp;omega) h0 (by decide);have h2:zeros (List.replicate g.nons.toNat ((0,0):Fc))≤g.nons.toNat:=by unfold zeros;exact Nat.le_trans List.countP_le_length (by simp)
 unfold reachI;omega
theorem reach_same (g:Gr):reachL g=reachRef g:=by
 unfold reachL reachRef
 cases h:right g with
 |false=>rfl
 |true=>
  obtain⟨⟨hn1,_⟩,_⟩:=right_in h;rw[if_pos rfl,if_pos rfl];exact reach_loop _ g.nons.toNat 1 _ (by omega) Bd_I (right_In h (by rw[reachI_len];omega)) (zeros_I h) (by omega)
end Go.Av
namespace Go.Av
open Go.Proofs
def Rch (g:Gr) (l:List Fc):Prop:=l.getD g.start.toNat (0,0)=(1,0)∧∀x f,l[x]?=some f→showR g l x f=true
def RCl (g:Gr) (l:List Fc) (r:Int):Prop:=∀p∈g.prods,1≤rk l p.left→rk l p.left<r→∀s∈p.right,s.non=true→1≤rk l s.n∧rk l s.n≤rk l p.left+1
theorem getD_next {g:Gr} {rank:Int} {l:List Fc} {x:Nat} (h:rk l x≠0):(nextRL g rank l).getD x (0,0)=l.getD x (0,0):=by
 by_cases hx:x<l.length
 ·have e:(nextRL g rank l).getD x (0,0)=nextX g rank l x:=by simp[nextRL,hx,List.getD_eq_getElem?_getD]
  rw[e,nextX,if_neg h]
 ·rw[List.getD_eq_getElem?_getD,List.getD_eq_getElem?_getD,List.getElem?_eq_none (by rw[nextRL_len];omega),List.getElem?_eq_none (by omega)]
theorem rk_keep {g:Gr} {rank:Int} {l:List Fc} {n:Int} (h:rk l n≠0):rk (nextRL g rank l) n=rk l n:=by
 rcases rk_nextRL (g:=g) (rank:=rank) (l:=l) (n:=n) with e|⟨e,_⟩
 ·exact e
 ·exact(h e).elim
theorem stands_of {p:Pr} {s:Sy} (hs:s∈p.right) (hn:s.non=true):stands p s.n=true:=List.any_eq_true.2 ⟨s,hs,by simp[isN,hn]⟩
theorem next_hit {g:Gr} {rank:Int} {l:List Fc} {p:Pr} {n:Int} (hp:p∈g.prods) (hr:rk l p.left=rank) (h0:0≤n) (h1:n<l.length) (hst:stands p n=true) (hz:rk l n=0):rk (nextRL g rank l) n=rank+1:=by
 have hx:n.toNat<l.length:=by omega
 have e:(nextRL g rank l).getD n.toNat (0,0)=nextX g rank l n.toNat:=by simp[nextRL,hx,List.getD_eq_getElem?_getD]
 have hn:((n.toNat:Nat):Int)=n:=by omega
 unfold rk;rw[e,nextX,hn,if_pos hz]
 cases hq:g.prods.findIdx? (fun p=>decide (rk l p.left=rank) && stands p n) with
 |some q=>rfl
 |none=>
  rw[List.findIdx?_eq_none_iff] at hq;have:=hq p hp;simp[hr,hst] at this
theorem Rch_next {g:Gr} {rank:Int} {l:List Fc} (hr:1≤rank) (hb:Bd l rank) (h:Rch g l):Rch g (nextRL g rank l):=by
 obtain⟨h1,h2⟩:=h;have hst:rk l ((g.start.toNat:Nat):Int)≠0:=by unfold rk;rw[Int.toNat_natCast,h1];decide
 refine⟨by rw[getD_next hst];exact h1,fun x f hf=>?_⟩
 have hx:x<l.length:=by
  have:=(List.getElem?_eq_some_iff.1 hf).1;rwa[nextRL_len] at this
 have hl:l[x]?=some (l.getD x (0,0)):=by simp[hx]
 have e:f=nextX g rank l x:=by
  simp[nextRL,hx] at hf;exact hf.symm
 have old:=h2 x _ hl
 have keep:showR g (nextRL g rank l) x (l.getD x (0,0))=true:=by
  unfold showR at old ⊢;simp only[Bool.or_eq_true,Bool.and_eq_true] at old ⊢;rcases old with old|⟨o1,o2⟩
  ·exact .inl old
  ·refine .inr ⟨o1, ?_⟩
   revert o2
   split
   ·rename_i p hp
    simp only[Bool.and_eq_true,decide_eq_true_eq]
    rintro ⟨⟨y1,y2⟩,y3⟩
    rw[rk_keep (by omega)];exact⟨⟨y1,y2⟩,y3⟩
   ·exact id
 unfold nextX at e;split at e
 ·rename_i h0
  split at e
  ·rename_i q hq
   subst e;obtain⟨hq1,hq2,_⟩:=List.findIdx?_eq_some_iff_getElem.1 hq;simp only[Bool.and_eq_true,decide_eq_true_eq] at hq2;have hp:g.prods[((q:Int)).toNat]?=some (g.prods[q]):=by simp[hq1]
   unfold showR;simp only[hp,Bool.or_eq_true,Bool.and_eq_true,decide_eq_true_eq];refine .inr ⟨⟨by omega,by omega⟩, ?_⟩;rw[rk_keep (by omega)];exact⟨⟨by omega,by omega⟩,hq2.2⟩
  ·subst e;exact keep
 ·subst e;exact keep
theorem RCl_next {g:Gr} {rank:Int} {l:List Fc} (hr:1≤rank) (hb:Bd l rank) (hi:g.In l) (h:RCl g l rank):RCl g (nextRL g rank l) (rank+1):=by
 intro p hp h1 h2 s hs hn
 have hpl:rk (nextRL g rank l) p.left=rk l p.left:=by
  rcases rk_nextRL (g:=g) (rank:=rank) (l:=l) (n:=p.left) with e|⟨_,e⟩
  ·exact e
  ·omega
 rw[hpl] at h1 h2 ⊢;have hb1:=hb s.n;have hb2:=hb p.left;by_cases hlt:rk l p.left<rank
 ·have:=h p hp h1 hlt s hs hn;rw[rk_keep (by omega)];exact this
 ·have he:rk l p.left=rank:=by omega
  have hin:=(hi p hp).2 s hs hn;by_cases hz:rk l s.n=0
  ·rw[next_hit hp he hin.1 hin.2 (stands_of hs hn) hz];omega
  ·rw[rk_keep hz];omega
theorem reach_fin' {g:Gr}:∀(m:Nat) (rank:Int) (l:List Fc),1≤rank→Bd l rank→g.In l→zeros l≤m→Rch g l→RCl g l rank→
  (reachLoop g (m+1) rank l).length=l.length∧(∃b,Bd (reachLoop g (m+1) rank l) b)∧Rch g (reachLoop g (m+1) rank l)∧∀r,RCl g (reachLoop g (m+1) rank l) r:=by
 have stop:∀(rank:Int) (l:List Fc),1≤rank→Bd l rank→g.In l→(reachR g rank l).2=false→RCl g l rank→∀r,RCl g l r:=by
  intro rank l hr hb hi h2 hc r p hp h1 _ s hs hn
  have h3:nextRL g rank l=l:=by
   rw[←reachR_next hr hi];exact congrArg (·.1) (foldP_flag _ _ h2)
  have hbp:=hb p.left;have:=RCl_next hr hb hi hc;rw[h3] at this;exact this p hp h1 (by omega) s hs hn
 intro m
 induction m with
 |zero=>
  intro rank l hr hb hi hz hs hc
  have h2:(reachR g rank l).2=false:=by
   cases h:(reachR g rank l).2 with
   |false=>rfl
   |true=>have:=reachR_zeros hr hi h;omega
  have h3:(reachR g rank l).1=l:=congrArg (·.1) (foldP_flag _ _ h2);rw[reachLoop,h2,if_neg (by simp),h3];exact⟨rfl,⟨_,hb⟩,hs,stop rank l hr hb hi h2 hc⟩
 |succ m ih=>
  intro rank l hr hb hi hz hs hc
  cases h:(reachR g rank l).2 with
  |false=>
   have h3:(reachR g rank l).1=l:=congrArg (·.1) (foldP_flag _ _ h);rw[reachLoop,h,if_neg (by simp),h3];exact⟨rfl,⟨_,hb⟩,hs,stop rank l hr hb hi h hc⟩
  |true=>
   have hn:=reachR_next hr hi;have hz':=reachR_zeros hr hi h;rw[reachLoop,h,if_pos rfl,hn];rw[hn] at hz';have:=ih (rank+1) (nextRL g rank l) (by omega) (Bd_nextRL hr hb) (hi.of nextRL_len) (by omega) (Rch_next hr hb hs) (RCl_next hr hb hi hc);rw[nextRL_len] at this;exact this
theorem reach_fin {g:Gr} (h:right g=true):((reachL g).length:Int)=g.nons∧(∃b,Bd (reachL g) b)∧Rch g (reachL g)∧∀r,RCl g (reachL g) r:=by
 obtain⟨⟨hn,_⟩,_,⟨hs1,hs2⟩,_⟩:=right_in h;unfold reachL;rw[if_pos h]
 have hst:(reachI g).getD g.start.toNat (0,0)=(1,0):=by
  unfold reachI;rw[List.getD_eq_getElem?_getD,List.getElem?_set,if_pos rfl,if_pos (by rw[List.length_replicate];omega)];rfl
 have:=reach_fin' (g:=g) g.nons.toNat 1 (reachI g) (by omega) Bd_I (right_In h (by rw[reachI_len];omega)) (by have:=zeros_I h;omega)
  ⟨hst,fun x f hf=>by
   unfold showR;by_cases e:x=g.start.toNat
   ·have:(x:Int)=g.start:=by omega
    simp[this]
   ·unfold reachI at hf;rw[List.getElem?_set,if_neg (Ne.symm e),List.getElem?_replicate] at hf;split at hf
    ·cases hf;simp
    ·cases hf⟩
  (fun p hp h1 h2=>by omega)
 refine⟨by rw[this.1,reachI_len];omega,this.2⟩
end Go.Av
namespace Go.Av
open Go.Proofs
structure Lf where
 prod:Nat
 dot:Nat
 frm:Nat
 to:Nat
def eLf (x:Lf):List AV:=[.int .i64 x.prod,.int .i64 x.dot]
def eTo (x:Lf):List AV:=[.int .i64 x.frm,.int .i64 x.to]
def ent (x:Lf):AV×AV:=(.agg (eLf x),.agg (eTo x))
def stepsP (null:List Fc) (i left:Nat):List Sy→Nat→List Lf
 |[],_=>[]
 |s::r,k=>if s.non then ⟨i,k,left,s.n.toNat⟩::(if rk null s.n=0 then [] else stepsP null i left r (k+1)) else []
def stepsF (null:List Fc) (l:List (Pr×Nat)):List Lf:=l.flatMap fun x=>stepsP null x.2 x.1.left.toNat x.1.right 0
def stepsG (g:Gr):List Lf:=stepsF (ranksL g false) g.prods.zipIdx
theorem zip_drop {g:Gr} {i:Nat} {p:Pr} (h:g.prods[i]?=some p):g.prods.zipIdx.drop i=(p,i)::g.prods.zipIdx.drop (i+1):=by
 obtain⟨hi,he⟩:=List.getElem?_eq_some_iff.1 h;rw[List.drop_eq_getElem_cons (by simpa using hi)]
 congr 1
 rw[List.getElem_zipIdx,he];simp
def Uq (L:List Lf):Prop:=∀x∈L,∀y∈L,x.prod=y.prod→x.dot=y.dot→x=y
def Ahead (L:List Lf) (i k:Nat):Prop:=∀y∈L,y.prod<i∨(y.prod=i∧y.dot<k)
theorem Uq.snoc {L:List Lf} {x:Lf} (h:Uq L) (a:Ahead L x.prod x.dot):Uq (L++[x]):=by
 intro y hy z hz e1 e2;simp only[List.mem_append,List.mem_singleton] at hy hz;rcases hy with hy|rfl<;>rcases hz with hz|rfl
 ·exact h y hy z hz e1 e2
 ·have:=a y hy;omega
 ·have:=a z hz;omega
 ·rfl
theorem Ahead.snoc {L:List Lf} {x:Lf} (a:Ahead L x.prod x.dot):Ahead (L++[x]) x.prod (x.dot+1):=by
 intro y hy;simp only[List.mem_append,List.mem_singleton] at hy;rcases hy with hy|rfl
 ·have:=a y hy;omega
 ·right;omega
theorem Ahead.next {L:List Lf} {i k:Nat} (a:Ahead L i k):Ahead L (i+1) 0:=by
 intro y hy;have:=a y hy;omega
theorem cell_lf {x y:Lf}:cellEq [.int .i64,.int .i64] (.agg (eLf x)) (.agg (eLf y))=some (decide (x.prod=y.prod) && decide (x.dot=y.dot)):=by
 simp only[cellEq,cellsOf,eLf,eqs,eq1,and_self,if_true,Bool.and_true];have h1:((x.prod:Int)==(y.prod:Int))=decide (x.prod=y.prod):=by rw[int_beq];exact decide_eq_decide.2 Int.ofNat_inj
 have h2:((x.dot:Int)==(y.dot:Int))=decide (x.dot=y.dot):=by rw[int_beq];exact decide_eq_decide.2 Int.ofNat_inj
 rw[h1,h2];exact if_pos (by decide)
theorem key_lf {x:Lf}:keyOK [.int .i64,.int .i64] (.agg (eLf x))=true:=by
 unfold keyOK;rw[cell_lf];rfl
theorem find_no {x:Lf}:∀L:List Lf,Ahead L x.prod x.dot→find [.int .i64,.int .i64] (.agg (eLf x)) (L.map ent)=some none
 |[],_=>rfl
 |y::L,h=>by
  have h1:=h y (by simp);rw[List.map_cons,ent,find,cell_lf];have:(decide (x.prod=y.prod) && decide (x.dot=y.dot))=false:=by simp;omega
  rw[this];exact find_no L fun z hz=>h z (by simp[hz])
theorem find_yes {x:Lf}:∀L:List Lf,Uq L→x∈L→find [.int .i64,.int .i64] (.agg (eLf x)) (L.map ent)=some (some (.agg (eTo x)))
 |[],_,h=>by cases h
 |y::L,hu,hx=>by
  rw[List.map_cons,ent,find,cell_lf];by_cases e:x.prod=y.prod∧x.dot=y.dot
  ·have:=hu x hx y (by simp) e.1 e.2;subst this;simp
  ·have h1:(decide (x.prod=y.prod) && decide (x.dot=y.dot))=false:=by simp;omega
   rw[h1];rcases List.mem_cons.1 hx with rfl|hx
   ·exact absurd ⟨rfl,rfl⟩ e
   ·exact find_yes L (fun a ha b hb=>hu a (by simp[ha]) b (by simp[hb])) hx
def LIn (M:Nat) (L:List Lf):Prop:=∀x∈L,x.frm<M∧x.to<M
theorem stepsP_in {null:List Fc} {M i left:Nat} (hl:left<M):∀(r:List Sy) (k:Nat),(∀s∈r,s.non=true→0≤s.n∧s.n<M)→∀x∈stepsP null i left r k,x.frm<M∧x.to<M
 |[],k,_,x,hx=>by cases hx
 |s::r,k,h,x,hx=>by
  rw[stepsP] at hx;split at hx
  ·rename_i hn
   have hs:=h s (by simp) hn;rcases List.mem_cons.1 hx with rfl|hx
   ·exact⟨hl,by simp only;omega⟩
   ·split at hx
    ·cases hx
    ·exact stepsP_in hl r (k+1) (fun y hy=>h y (by simp[hy])) x hx
  ·cases hx
theorem steps_in {g:Gr} (hr:right g=true):LIn g.nons.toNat (stepsG g):=by
 obtain⟨h1,_,_,_,h5⟩:=right_in hr;intro x hx;simp only[stepsG,stepsF,List.mem_flatMap] at hx;obtain⟨⟨p,i⟩,hp,hx⟩:=hx;obtain⟨a,_,c⟩:=h5 p (List.fst_mem_of_mem_zipIdx hp);refine stepsP_in (by simp only;omega) p.right 0 (fun s hs hn=>?_) x hx;have:=c s hs;rw[if_pos hn] at this;omega
def Pth (L:List Lf):Nat→Nat→List Lf→Prop
 |a,b,[]=>a=b
 |a,b,x::l=>x∈L∧x.frm=a∧Pth L x.to b l
def Cyc (g:Gr) (n:Nat):Prop:=∃l,l≠[]∧Pth (stepsG g) n n l
noncomputable def cycB (g:Gr) (n:Nat):Bool:=@decide (Cyc g n) (Classical.propDecidable _)
theorem cycB_iff {g:Gr} {n:Nat}:cycB g n=true↔Cyc g n:=by
 unfold cycB;exact @decide_eq_true_iff _ (Classical.propDecidable _)
theorem Pth.app {L:List Lf} {b c:Nat} {m:List Lf} (h2:Pth L b c m):∀{a:Nat} {l:List Lf},Pth L a b l→Pth L a c (l++m)
 |a,[],h=>by
  have:a=b:=h;subst this;exact h2
 |a,x::l,h=>⟨h.1,h.2.1,Pth.app h2 h.2.2⟩
structure Aw (L:List Lf) (M to:Nat) (a:List Int):Prop where
 len:a.length=M
 zero:a.getD to (-1)=0
 low:∀n, -1≤a.getD n (-1)
 only:∀n,a.getD n (-1)=0→n=to
 cnt:∀n,a.getD n (-1)<(a.countP fun d=>decide (0≤d):Nat)
 by':∀n,0<a.getD n (-1)→∃x∈L,x.frm=n∧0≤a.getD x.to (-1)∧a.getD x.to (-1)<a.getD n (-1)
def AwCl (L:List Lf) (a:List Int):Prop:=∀x∈L,0≤a.getD x.to (-1)→0≤a.getD x.frm (-1)∧a.getD x.frm (-1)≤a.getD x.to (-1)+1
def awM (M:Nat) (a:List Int):Nat:=(a.map fun d=>if d<0 then M+1 else d.toNat).sum
theorem getD_set {a:List Int} {i n:Nat} {v:Int} (h:i<a.length):(a.set i v).getD n (-1)=if n=i then v else a.getD n (-1):=by
 rw[List.getD_eq_getElem?_getD,List.getElem?_set];by_cases e:i=n
 ·rw[if_pos e,if_pos h,if_pos e.symm];rfl
 ·rw[if_neg e,if_neg (Ne.symm e),←List.getD_eq_getElem?_getD]
theorem countP_set {p:Int→Bool}:∀{a:List Int} {i:Nat} {v:Int},i<a.length→p v=true→(a.set i v).countP p=a.countP p+(if p (a.getD i (-1)) then 0 else 1)
 |[],i,v,h,_=>by simp at h
 |x::a,0,v,h,hv=>by
  simp only[List.set_cons_zero,List.countP_cons,hv,List.getD_cons_zero,if_true];cases p x<;>simp
 |x::a,i+1,v,h,hv=>by
  rw[List.set_cons_succ,List.countP_cons,List.countP_cons,countP_set (by simpa using h) hv,List.getD_cons_succ];omega
theorem awM_set {M:Nat}:∀{a:List Int} {i:Nat} {v:Int},i<a.length→(if v<0 then M+1 else v.toNat)<(if a.getD i (-1)<0 then M+1 else (a.getD i (-1)).toNat)→awM M (a.set i v)<awM M a
 |[],i,v,h,_=>by simp at h
 |x::a,0,v,h,hv=>by
  simp only[awM,List.set_cons_zero,List.map_cons,List.sum_cons,List.getD_cons_zero] at hv ⊢;omega
 |x::a,i+1,v,h,hv=>by
  rw[List.getD_cons_succ] at hv;have:=awM_set (by simpa using h) hv;simp only[awM,List.set_cons_succ,List.map_cons,List.sum_cons] at this ⊢;omega
theorem Aw.set {L:List Lf} {M to:Nat} {a:List Int} (h:Aw L M to a) {x:Lf} (hx:x∈L) (hL:LIn M L) (h0:0≤a.getD x.to (-1)) (h1:a.getD x.frm (-1)<0∨a.getD x.to (-1)+1<a.getD x.frm (-1)):
  Aw L M to (a.set x.frm (a.getD x.to (-1)+1))∧awM M (a.set x.frm (a.getD x.to (-1)+1))<awM M a:=by
 obtain⟨k1,k2,k3,k4,k5,k6⟩:=h;obtain⟨hf,ht⟩:=hL x hx;have hfl:x.frm<a.length:=by omega
 obtain⟨d,hd⟩:∃d,d=a.getD x.to (-1):=⟨_,rfl⟩;rw[←hd] at h0 h1 ⊢;have hcM:a.countP (fun d=>decide (0≤d))≤M:=by rw[←k1];exact List.countP_le_length
 have hdc:=k5 x.to;rw[←hd] at hdc;have hne:x.frm≠to:=fun e=>by rw[e,k2] at h1;omega
 have hnt:x.to≠x.frm:=fun e=>by rw[←e,←hd] at h1;omega
 have hcs:(a.set x.frm (d+1)).countP (fun d=>decide (0≤d))=a.countP (fun d=>decide (0≤d))+(if decide (0≤a.getD x.frm (-1))=true then 0 else 1):=countP_set hfl (by simp;omega);refine⟨⟨by simpa using k1, ?_,fun n=>?_,fun n=>?_,fun n=>?_,fun n=>?_⟩,awM_set hfl ?_⟩
 ·rw[getD_set hfl,if_neg (Ne.symm hne)];exact k2
 ·rw[getD_set hfl];split
  ·omega
  ·exact k3 n
 ·rw[getD_set hfl];split
  ·intro e;omega
  ·exact k4 n
 ·rw[hcs,getD_set hfl];have:=k5 n
  have hif:(if decide (0≤a.getD x.frm (-1))=true then 0 else 1)=if 0≤a.getD x.frm (-1) then 0 else 1:=by
   by_cases hp:0≤a.getD x.frm (-1)<;>simp only[hp,decide_true,decide_false,if_true,Bool.false_eq_true,if_false]
  rw[hif];by_cases hp:0≤a.getD x.frm (-1)
  ·rw[if_pos hp];split
   ·rename_i e
    rw[e] at this;omega
   ·omega
  ·rw[if_neg hp];split
   ·omega
   ·omega
 ·rw[getD_set hfl];split
  ·rename_i e
   intro _;refine⟨x,hx,e.symm, ?_, ?_⟩
   ·rw[getD_set hfl,if_neg hnt,←hd];exact h0
   ·rw[getD_set hfl,if_neg hnt,←hd];omega
  ·intro hp;obtain⟨y,hy,e1,e2,e3⟩:=k6 n hp;refine⟨y,hy,e1, ?_, ?_⟩
   ·rw[getD_set hfl];split
    ·omega
    ·exact e2
   ·rw[getD_set hfl];split
    ·rename_i e4
     rw[e4] at e2 e3;omega
    ·exact e3
 ·rw[if_neg (by omega)];split<;>omega
theorem path_aw {L:List Lf} {M to:Nat} {a:List Int} (h:Aw L M to a) (hc:AwCl L a):∀(l:List Lf) (n:Nat),Pth L n to l→0≤a.getD n (-1)
 |[],n,hp=>by
  have:n=to:=hp;rw[this,h.zero];exact Int.le_refl 0
 |x::l,n,⟨hx,e,hp⟩=>by
  have:=path_aw h hc l x.to hp;rw[←e];exact(hc x hx this).1
end Go.Av
