/-
  Layer 22: items cost; a word is accepted. Conditions: none.
-/
import Derived.Test.YtjpkjbobcicfoaaGreatDoorEK
import Derived.Test.YtjpkjbobcicfoaaGreatDoorE3
import Derived.Test.YtjpkjbobcicfoaaGreatDoorZ9
set_option linter.unusedSimpArgs false
set_option linter.unusedVariables false
namespace Go.Av
open Go.Proofs
set_option maxRecDepth 100000
theorem mapM_pt {α β:Type} {f:α→Option β}:∀(es:List α) (l:List β),es.length=l.length→(∀(i:Nat) (e:α) (x:β),es[i]?=some e→l[i]?=some x→f e=some x)→es.mapM f=some l
 |[],[],_,_=>rfl
 |[],_::_,h,_=>by simp at h
 |_::_,[],h,_=>by simp at h
 |e::es,x::l,h,hp=>by
  rw[List.mapM_cons,hp 0 e x rfl rfl,mapM_pt es l (by simpa using h) fun i e' x' h1 h2=>hp (i+1) e' x' (by simpa using h1) (by simpa using h2)];rfl
theorem pf74:PF pg Tq 74 [.ro []] (.ro []):=by
 obtain⟨r,h',n',hb,rfl,rfl,rfl⟩:=fe74 h0 0;exact⟨_,_,_,hb,4,fun fr=>by simp[rf]⟩
def RV (h:Heap) (n n' b:Nat) (v:AV) (l:List Sy):Prop:=(l=[]∧v=.ro [])∨∃bi,v=.sl bi 0 l.length 2∧n≤bi∧bi<n'∧bi≠b∧h bi=some (.cells (l.map eSy))
def CpC (g:Gr) (h:Heap) (n n' b j:Nat):Prop:=n≤b∧b<n'∧∃es,h b=some (.cells es)∧es.length=j∧∀(i:Nat) (p:Pr),i<j→g.prods[i]?=some p→∃v,es[i]?=some [.int .i64 p.left,v]∧RV h n n' b v p.right
theorem CpC.next {g:Gr} {h h':Heap} {n n' m b j:Nat} (c:CpC g h n n' b j) (hm:n'≤m) (hh:∀y,n≤y→y<n'→h' y=h y):CpC g h' n m b j:=by
 obtain⟨c1,c2,es,c3,c4,c5⟩:=c;refine⟨c1,by omega,es,(hh _ c1 c2).trans c3,c4,fun i p hi hp=>?_⟩;obtain⟨v,q1,q2⟩:=c5 i p hi hp;refine⟨v,q1,q2.imp id fun⟨bi,r0,r1,r2,r3,r4⟩=>⟨bi,r0,r1,by omega,r3,(hh _ r1 r2).trans r4⟩⟩
theorem CpC.add {g:Gr} {h h':Heap} {n n' m b b' j:Nat} {es:List (List AV)} {p:Pr} {v:AV} (hp:g.prods[j]?=some p) (hes:es.length=j)
  (c5:∀(i:Nat) (p:Pr),i<j→g.prods[i]?=some p→∃v,es[i]?=some [.int .i64 p.left,v]∧RV h n n' b v p.right) (hm:n'≤m) (h1:n≤b') (h2:b'<m) (h3:n'≤b') (hh:∀y,n≤y→y<n'→y≠b→h' y=h y)
  (hb:h' b'=some (.cells (es++[[.int .i64 p.left,v]]))) (hv:RV h' n m b' v p.right):CpC g h' n m b' (j+1):=by
 refine⟨h1,h2,es++[[.int .i64 p.left,v]],hb,by simp[hes],fun i q hi hq=>?_⟩;by_cases e:i=j
 ·subst e;rw[hp] at hq;injection hq with hq;subst hq
  exact⟨v,by rw[List.getElem?_append_right (by omega),hes,Nat.sub_self];rfl,hv⟩
 ·obtain⟨u,q1,q2⟩:=c5 i q (by omega) hq;refine⟨u,by rw[List.getElem?_append_left (by omega)];exact q1,q2.imp id fun⟨bi,r0,r1,r2,r3,r4⟩=>⟨bi,r0,r1,by omega,by omega,(hh _ r1 r2 r3).trans r4⟩⟩
theorem CpC.frz {g:Gr} {h:Heap} {n n' b:Nat} (c:CpC g h n n' b g.prods.length):∃hX:Heap,(∀y o,hX y=some o→n≤y∧y<n'∧h y=some o)∧∀fr,rf fr 8 hX (.sl b 0 g.prods.length 2)=some (.ro (g.prods.map ePr)):=by
 obtain⟨c1,c2,es,c3,c4,c5⟩:=c;refine⟨fun y=>if n≤y∧y<n' then h y else none,fun y o q=>?_,fun fr=>?_⟩
 ·by_cases e:n≤y∧y<n'
  ·simp only[if_pos e] at q;exact⟨e.1,e.2,q⟩
  ·simp only[if_neg e] at q;cases q
 ·refine rf_sla (es:=es) (d:=7) (by simp only[if_pos (And.intro c1 c2)];exact c3) c4.symm ?_;rw[rfe];refine mapM_pt _ _ (by simp[c4]) fun i e x h1 h2=>?_
  have hi:i<g.prods.length:=by rw[←c4];exact(List.getElem?_eq_some_iff.1 h1).1
  obtain⟨p,hp⟩:=get_some hi;obtain⟨v,q1,q2⟩:=c5 i p hi hp;rw[h1] at q1;injection q1 with q1
  rw[List.getElem?_map,hp] at h2;injection h2 with h2
  subst q1 h2
  have hv:rf fr 5 (fun y=>if n≤y∧y<n' then h y else none) v=some (.ro (p.right.map eSy)):=by
   rcases q2 with ⟨r1,rfl⟩|⟨bi,rfl,r1,r2,r3,r4⟩
   ·rw[r1];simp[rf]
   ·exact rf_sla (d:=4) (by simp only[if_pos (And.intro r1 r2)];exact r4) (by simp) (rfe_map fun s _=>by simp[rfs,rf,eSy])
  exact rfs_cons (by simp[rf]) (rfs_cons hv rfs_nil)
set_option maxHeartbeats 8000000 in
theorem fz27 (g:Gr) (hp60:g.prods.length≤60) (hr8:∀p∈g.prods,p.right.length≤8) (h:Heap) (n:Nat):FH pg Tq 27 [.agg (eGr g)] h n fun r h' n'=>∃(bp:Nat) (hX:Heap),r=.agg [.int .i64 g.terms,.int .i64 g.nons,.int .i64 g.start,.sl bp 0 g.prods.length 2]∧n≤n'∧(∀y o,hX y=some o→n≤y∧y<n'∧h' y=some o)∧(∀fr,rf fr 8 hX (.sl bp 0 g.prods.length 2)=some (.ro (g.prods.map ePr)))∧∀y,y<n→h' y=h y:=by
 refine FH.of (N:=30) (rs:=#[.cell 2 24]) Tryz.func27 rfl rfl (of_decide_eq_true rfl) rfl (by decide) ?_;refine W.rseq (k:=2) rfl fun K hK=>?_;simp only[go_sem];refine hK _ _ _ ?_;clear hK K
 have z0:∀j,¬n=n+1+1+j:=fun j=>by omega
 refine W.rseq (k:=5) rfl fun K hK=>?_
 have main:∀(t':Fr) (h':Heap) (n':Nat),t' 1=.ptr n 0 0→t' 2=.ptr (n+1) 0 0→t' 3=.sl (n+5) 0 0 2→h' n=some (.cells [eGr g])→(∃c,h' (n+1)=some (.cells [c])∧c.length=4)→h' (n+5)=some (.cells [])→n+5<n'→(∀y,y<n→h' y=h y)→K t' h' n':=by
  intro t' h' n' s1 s2 s3 k0 k1 k5 hn hf;refine hK _ _ _ ?_;clear hK;refine W.seqk fun K hK=>?_
  have nx:∀(t':Fr) (h':Heap) (n' b:Nat),t' 1=.ptr n 0 0→t' 2=.ptr (n+1) 0 0→t' 3=.sl b 0 g.prods.length 2→h' n=some (.cells [eGr g])→(∃c,h' (n+1)=some (.cells [c])∧c.length=4)→CpC g h' (n+2) n' b g.prods.length→n+5<n'→(∀y,y<n→h' y=h y)→K t' h' n':=by
   intro t' h' n' b s1 s2 s3 k0 ⟨c,k1,k2⟩ hc hn hf;refine hK _ _ _ ?_;clear hK;obtain⟨hX,x1,x2⟩:=hc.frz;have z0:∀j,¬n=n'+j:=fun j=>by omega
   have z1:∀j,¬n+1=n'+j:=fun j=>by omega
   refine W.rseq (k:=3) rfl fun K hK=>?_;simp only[go_sem,s1,s3,k0,z0,eGr];refine hK _ _ _ ?_;clear hK K;refine W.rseq (k:=2) rfl fun K hK=>?_;simp only[go_sem,s1,s2,k0,k1,k2,z0,z1,eGr];refine hK _ _ _ ?_;clear hK K;refine W.ret ?_;simp only[go_sem,s2,k2]
   refine⟨_,hX,rfl,by omega,fun y o q=>?_,x2,fun y hy=>?_⟩
   ·obtain⟨q1,q2,q3⟩:=x1 y o q;refine⟨by omega,by omega, ?_⟩;simp only[go_sem,show ¬y=n by omega,show ¬y=n+1 by omega];exact q3
   ·simp only[go_sem,show ¬y=n by omega,show ¬y=n+1 by omega];exact hf y hy
  clear hK;have z0:∀j,¬n=n'+j:=fun j=>by omega
  refine W.rseq (k:=4) rfl fun K hK=>?_;simp only[go_sem,s1,k0,z0,eGr,List.length_map];refine hK _ _ _ ?_;clear hK K
  refine W.block (W.while (fun mm t2 h2 n2=>∃(j b:Nat),mm=g.prods.length - j∧j≤g.prods.length∧t2 3=.sl b 0 j 2∧CpC g h2 (n+2) n2 b j∧n+5<n2∧h2 n=some (.cells [eGr g])∧(∃c,h2 (n+1)=some (.cells [c])∧c.length=4)∧(∀y,y<n→h2 y=h y)∧(t2 1=.ptr n 0 0∧t2 2=.ptr (n+1) 0 0∧t2 11=.ro (g.prods.map ePr)∧t2 12=.int .i64 g.prods.length)∧t2 13=.int .i64 j) g.prods.length
   ⟨0,n+5,by simp,by simp,s3,⟨by omega,by omega,[],k5,rfl,fun i p hi _=>absurd hi (by omega)⟩,by omega,k0,k1,hf,⟨s1,s2,rfl,rfl⟩,rfl⟩ fun mm t2 h2 n2 ⟨j,b,i1,i2,i3,i4,i5,i6,i7,i8,i9,i10⟩=>?_)
  obtain⟨a1,a2,a11,a12⟩:=i9;refine W.rseq (k:=1) rfl fun K hK=>?_;simp only[go_sem,a12,i10];refine hK _ _ _ ?_;clear hK K;refine W.seq ?_
  refine W.cond rfl (fun hc=>?_) fun hc=>?_
  ·refine W.skip ?_;simp only[go_sem];have hj:j<g.prods.length:=by simp at hc;omega
   obtain⟨p,hp⟩:=get_some hj;have hpk:(g.prods.map ePr)[j]?=some (ePr p):=by rw[List.getElem?_map,hp];rfl
   have hp8:=hr8 p (List.mem_of_getElem? hp);obtain⟨hb1,hb2,es,hb3,hb4,hb5⟩:=i4;have zb:∀j,¬b=n2+j:=fun j=>by omega
   have lb:∀j,(b<n2+j)=True:=fun j=>eq_true (by omega)
   refine W.seqk fun K hK=>?_
   have nx2:∀(t3:Fr) (h3:Heap) (n3:Nat) (b':Nat),n2≤n3→t3 3=.sl b' 0 (j+1) 2→CpC g h3 (n+2) n3 b' (j+1)→h3 n=some (.cells [eGr g])→(∃c,h3 (n+1)=some (.cells [c])∧c.length=4)→(∀y,y<n→h3 y=h y)→(t3 1=.ptr n 0 0∧t3 2=.ptr (n+1) 0 0∧t3 11=.ro (g.prods.map ePr)∧t3 12=.int .i64 g.prods.length)→t3 13=.int .i64 j→K t3 h3 n3:=by
    intro t3 h3 n3 b' d1 d2 d3 d4 d5 d6 d7 d8;refine hK _ _ _ ?_;clear hK;refine W.region (k:=2) rfl ?_;simp only[go_sem,d8];refine⟨g.prods.length - (j+1),by omega,j+1,b',rfl,by omega,d2, ?_,by omega,d4,d5,d6,d7, ?_⟩
    ·exact d3.next (by omega) (fun _ _ _=>rfl)
    ·rw[wrap64 (by omega) (by omega)];rfl
   clear hK;refine W.block ?_;refine W.rseq (k:=4) rfl fun K hK=>?_;simp only[go_sem,a11,i10,hpk,ePr];refine hK _ _ _ ?_;clear hK K
   by_cases hr:p.right=[]
   ·refine W.draw (k:=10) rfl ?_;simp only[go_sem,i3,hb3,hb4,zb,lb,hr,List.map_nil];refine VCall.frz 6 pf74 rfl ?_;simp only[go_sem,i3,hb3,hb4,zb,lb,show(j+1)*32≤140737488355328 by omega,and_false,if_false,Nat.lt_irrefl];refine⟨by kernel_rfl, ?_⟩;refine nx2 _ _ _ _ (by omega) rfl ?_ ?_ ?_ (fun y hy=>?_) ⟨a1,a2,a11,a12⟩ i10
    ·refine CpC.add (h:=h2) (n':=n2) (b:=b) hp hb4 hb5 (by omega) (by omega) (by omega) (by omega) (fun y q1 q2 q3=>?_) (by simp only[go_sem]) (.inl ⟨hr,rfl⟩);simp only[go_sem,show ∀j,¬y=n2+j from fun j=>by omega,q3]
    ·simp only[go_sem,show ¬n=b by omega,show ∀j,¬n=n2+j from fun j=>by omega];exact i6
    ·simp only[go_sem,show ¬n+1=b by omega,show ∀j,¬n+1=n2+j from fun j=>by omega];exact i7
    ·simp only[go_sem,show ¬y=b by omega,show ∀j,¬y=n2+j from fun j=>by omega];exact i8 y hy
   ·refine W.draw (k:=10) rfl ?_;simp only[go_sem,i3,hb3,hb4,zb,lb];refine VCall.own 6 (fz74 p.right (by omega) hr) (rfs_cons (by simp[rf]) rfs_nil) ?_;simp only[go_sem,i3,hb3,hb4,zb,lb,show(j+1)*32≤140737488355328 by omega,and_false,if_false,Nat.lt_irrefl];refine⟨by kernel_rfl, ?_⟩;refine nx2 _ _ _ _ (by omega) rfl ?_ ?_ ?_ (fun y hy=>?_) ⟨a1,a2,a11,a12⟩ i10
    ·refine CpC.add (h:=h2) (n':=n2) (b:=b) hp hb4 hb5 (by omega) (by omega) (by omega) (by omega) (fun y q1 q2 q3=>?_) (by simp only[go_sem];rfl) (.inr ⟨_,rfl, ?_, ?_, ?_, ?_⟩)
     ·simp only[go_sem,show ∀j,¬y=n2+j from fun j=>by omega,q3]
     ·omega
     ·omega
     ·omega
     ·simp only[go_sem,show ∀j,¬n2+j=b from fun j=>by omega]
    ·simp only[go_sem,show ¬n=b by omega,show ∀j,¬n=n2+j from fun j=>by omega];exact i6
    ·simp only[go_sem,show ¬n+1=b by omega,show ∀j,¬n+1=n2+j from fun j=>by omega];exact i7
    ·simp only[go_sem,show ¬y=b by omega,show ∀j,¬y=n2+j from fun j=>by omega];exact i8 y hy
  ·refine W.exit ?_;simp only[go_sem];have hj:j=g.prods.length:=by simp at hc;omega
   subst hj;exact nx _ _ _ b a1 a2 i3 i6 i7 (i4.next (by omega) (fun _ _ _=>rfl)) (by omega) i8
 clear hK;by_cases hM:g.prods.length=0
 ·simp only[go_sem,List.length_map,hM,Int.zero_mul];exact main _ _ _ rfl rfl rfl (by simp only[go_sem]) ⟨_,by simp only[go_sem];rfl,rfl⟩ (by simp only[go_sem]) (by omega) (fun y hy=>by simp only[go_sem,show ∀j,¬y=n+j from fun j=>by omega,show ¬y=n by omega])
 ·simp only[go_sem,List.length_map,aopR,aopX,xMake,five,Cls.five,false_and,show((0:Int)=(g.prods.length:Int))=False from eq_false (by omega),show(g.prods.length:Int)*32≤140737488355328 by omega];exact main _ _ _ rfl rfl rfl (by simp only[go_sem]) ⟨_,by simp only[go_sem];rfl,rfl⟩ (by simp only[go_sem]) (by omega) (fun y hy=>by simp only[go_sem,show ∀j,¬y=n+j from fun j=>by omega,show ¬y=n by omega])
def NewR (g:Gr) (n:Nat) (h:Heap) (r:AV) (h':Heap) (n':Nat):Prop:=
 ((checkL g).2≠0∧∃i,r=.tup [.nilp,.int .i64 i,.int .i64 (checkL g).2])∨
   ((checkL g).2=0∧∃bE bM gp,r=.tup [.ptr bE 0 0,.int .i64 0,.int .i64 0]∧EM g bE bM gp h' n'∧n≤bE∧n≤bM∧n≤n'∧∀y,y<n→h' y=h y)
set_option maxHeartbeats 8000000 in
theorem fz9 (g:Gr) (hg:g.Small) (h:Heap) (n:Nat):FH pg Tq 9 [.agg (eGr g)] h n fun r h' n'=>NewR g n h r h' n':=by
 refine FH.of (N:=22) (rs:=#[.tmp 2,.tmp 3,.tmp 4]) Tryz.func9 rfl rfl (of_decide_eq_true rfl) rfl (by decide) ?_;refine W.rseq (k:=4) rfl fun K hK=>?_;simp only[go_sem];refine hK _ _ _ ?_;clear hK K
 have z0:∀j,¬n=n+j+1:=fun j=>by omega
 refine W.seq ?_;refine W.rseq (k:=7) rfl fun K hK=>?_;simp only[go_sem];refine VCall.frz 6 (fz26 g hg) rfl ?_;try simp only[go_sem];refine hK _ _ _ ?_;clear hK K
 by_cases hc:(checkL g).2=0
 ·refine W.rseq (k:=2) rfl fun K hK=>?_;simp only[go_sem,hc];refine hK _ _ _ ?_;clear hK K;refine W.condF (by simp only[go_sem]) ?_;refine W.skip ?_;simp only[go_sem]
  have hr:right g=true:=by
   cases hr:right g
   ·have h1:=hc;rw[checkL,hr] at h1;cases h1
   ·rfl
  obtain⟨_,_,_,hp60,h5⟩:=right_in hr;refine W.rseq (k:=9) rfl fun K hK=>?_;simp only[go_sem]
  refine VCall.heap (fz27 g hp60 (fun p hp=>(h5 p hp).2.1) _ _) fun r h1 n1 ⟨bp,hX,r1,r2,r3,r4,r5⟩=>?_
  subst r1;simp only[go_sem,Option.isNone_none];refine hK _ _ _ ?_
  first|clear hK K|clear hK|skip
  refine W.ret ?_;simp only[go_sem];refine .inr ⟨hc,n+18,n+15,_,rfl,⟨by omega,by omega,by omega,⟨0,hX,by simp only[go_sem],fun y o q=>?_,r4⟩,[], ?_,fun p hp=>by cases hp⟩,by omega,by omega,by omega,fun y hy=>?_⟩
  ·obtain⟨q1,q2,q3⟩:=r3 y o q;refine⟨by omega,by omega,by omega, ?_⟩;simp only[go_sem,show ¬y=n+18 by omega,show ¬y=n+15 by omega];exact q3
  ·simp only[go_sem];rfl
  ·simp only[go_sem,show ∀j,¬y=n+j from fun j=>by omega];refine(r5 y (by omega)).trans ?_;simp only[go_sem,show ∀j,¬y=n+j from fun j=>by omega,show ¬y=n by omega]
 ·refine W.rseq (k:=2) rfl fun K hK=>?_;simp only[go_sem,show((checkL g).2=0)=False from eq_false hc];refine hK _ _ _ ?_;clear hK K;refine W.condT (by simp only[go_sem]) ?_;refine W.rseq (k:=5) rfl fun K hK=>?_;simp only[go_sem];refine hK _ _ _ ?_;clear hK K;refine W.ret ?_;simp only[go_sem]
  exact .inl ⟨hc,_,rfl⟩
end Go.Av
namespace Go.Av
open Go.Proofs
set_option maxRecDepth 100000
theorem rowsC_in {g:Gr} {w:List Int} {l:List (Nat→Nat)} (h:RowsC g w l):RwIn l:=fun j i=>by
 by_cases hj:j<l.length
 ·exact(h.2 j hj).1.1 i
 ·have:l[j]?=none:=List.getElem?_eq_none (by omega);unfold rowAt;rw[List.getD_eq_getElem?_getD,this];exact(by decide:0<2^32)
theorem WV.frz {h:Heap} {n d:Nat} {v:AV} {w:List Int} (q:WV h n v w):rf true (d+4) h v=some (.ro (w.map eIn)):=by
 rcases q with rfl|⟨b,rfl,q1,q2⟩
 ·simp[rf]
 ·exact rf_sla (d:=d+3) q2 (by simp) rfe_in
set_option maxHeartbeats 8000000 in
theorem fz86 {g:Gr} (hg:SmG g) (hG:GoodG g) {bE bM n0:Nat} {gp:AV} {h:Heap} {n:Nat} {C:Int} (hC:C≤2^41) (m:EC g bE bM gp C h n0) (hn0:n0≤n) (w:List Int) (hw:w.length≤24) (hk:KeyW w) (v:AV) (hv:WV h n v w) (kind:Int):
  FH pg Tq 86 [.ptr bE 0 0,v,.int .i64 kind] h n fun r h' n'=>∃l,RowsC g w l∧r=.tup [.ro ((byL g w kind l).2.map eIn),.bool (decide ((byL g w kind l).1=0))]∧EC g bE bM gp (C+3000) h' n0∧n≤n'∧∀y,y<n→y≠bE→y≠bM→h' y=h y:=by
 obtain⟨c,hE,⟨c0,c1⟩,hgp⟩:=m.args;have mE:=m.em.lE;have mM:=m.em.lM;have hlook:=fz29 hg (by omega) m (show n0≤n+2+15 by omega) w hw hk v (hv.next (by omega) (fun _ _=>rfl));refine FH.of (N:=35) (rs:=#[.tmp 6,.tmp 7]) Tryz.func86 rfl rfl (of_decide_eq_true rfl) rfl (by decide) ?_;refine W.rseq (k:=2) rfl fun K hK=>?_;simp only[go_sem];refine hK _ _ _ ?_;clear hK K
 refine W.dseqB (k:=15) rfl fun K hK=>?_
 refine VB.run 3 rfl ?_;simp only[go_sem];refine VB.loadR (b:=bE) (j:=0) (off:=0) (cs':=[.int .i64 g.terms,.int .i64 g.nons,.int .i64 g.start,gp]) (v:=.agg [.int .i64 g.terms,.int .i64 g.nons,.int .i64 g.start,gp]) tabOK rfl rfl rfl rfl th24 rfl ?_ rfl ?_
 ·simp only[rdQ,hE];rfl
 refine VB.run 4 rfl ?_;simp only[go_sem];refine VB.callK tabOK follows [(bE,.seg 0 0 4)] [] rfl rfl rfl rfl rfl rfl rfl hlook (fun r h5 n5 ⟨l,r1,r2,r3,r4,r5⟩=>⟨fun q hq=>?_,fun b hb=>(by cases hb)⟩) fun r h5 n5 ⟨l,r1,r2,r3,r4,r5⟩=>?_
 ·have:q=(bE,.seg 0 0 4):=by simpa using hq
  subst this;obtain⟨c5,hE5,_,_⟩:=r3.args;simp only[rdQ,hE,hE5];rfl
 refine VB.run 6 rfl ?_;have hrl:l.length≤30:=by rw[r1.1];omega
 obtain⟨c5,hE5,⟨c50,c51⟩,hgp5⟩:=r3.args;have hpf:=fz103 g hg.small hG w kind l r1.1 hrl (rowsC_in r1);have hv5:WV h5 n5 v w:=hv.apart m.em (by omega) (fun y hy q1 q2=>r5 y (by omega) q1 q2);have hr5:rf true 10 h5 r=some (.ro (l.map eRw)):=r2.frz (d:=8) fun x _=>rfs_rw
 have hg5:rf true 8 h5 gp=some (.ro (g.prods.map ePr)):=hgp5 h5 (fun _ _ _ _=>rfl) true;simp only[go_sem];refine VCall.frzq (as':=[.agg (eGr g),.ro (w.map eIn),.int .i64 kind,.ro (l.map eRw)]) 11 (rfs_cons (rf_agg hg5) (rfs_cons hv5.frz (rfs_cons (by simp[rf]) (rfs_cons hr5 rfs_nil)))) hpf ?_;simp only[go_sem];refine VB.nil ?_;refine hK _ _ _ _ (drawOK_re (ren1_inj bE) (by simp only[List.reverse_cons,List.reverse_nil,List.nil_append,List.cons_append,List.map_cons,List.map_nil,Cls.re,ren1_at];kernel_rfl)) ?_;clear hK K;have zE:∀j,¬bE=n5+j:=fun j=>by omega
 have hbl:=by_len (g:=g) (w:=w) (kind:=kind) (l:=l);refine W.rseq (k:=10) rfl fun K hK=>?_;simp only[go_sem,hE5,zE,List.length_map,wrap64 (show -9223372036854775808≤c5+((byL g w kind l).2.length:Int) by omega) (show c5+((byL g w kind l).2.length:Int)<9223372036854775808 by omega)];refine hK _ _ _ ?_;clear hK K;refine W.rseq (k:=5) rfl fun K hK=>?_;simp only[go_sem];refine hK _ _ _ ?_;clear hK K;refine W.ret ?_;simp only[go_sem]
 refine⟨l,r1,rfl,r3.em.ec (by omega) (by omega),by omega,fun y hy q1 q2=>?_⟩;simp only[go_sem,q1];exact r5 y (by omega) q1 q2
end Go.Av
namespace Go.Av
open Go.Proofs
set_option maxRecDepth 100000
set_option maxHeartbeats 4000000 in
theorem fz33 {g:Gr} {bE bM n0:Nat} {gp:AV} {h:Heap} {n:Nat} {C:Int} (hC:C≤2^41) (m:EC g bE bM gp C h n0) (hn0:n0≤n) (S:List (List It)) (hS:S.length≤30) (hSb:∀i,(bg S i).length≤15000):
  FH pg Tq 33 [.ptr bE 0 0,.ro (S.map eSe)] h n fun r h' n'=>r=.ro (S.map eSe)∧EC g bE bM gp (C+450000) h' n0∧n≤n'∧∀y,y≠bE→h' y=h y:=by
 refine FH.of (N:=24) (rs:=#[.tmp 4]) Tryz.func33 rfl rfl (of_decide_eq_true rfl) rfl (by decide) ?_;refine W.rseq (k:=1) rfl fun K hK=>?_;simp only[go_sem];refine hK _ _ _ ?_;clear hK K;refine W.seqk fun K hK=>?_
 have nx:∀(t':Fr) (h':Heap) (n':Nat),t' 1=.ro (S.map eSe)→EC g bE bM gp (C+450000) h' n0→n≤n'→(∀y,y≠bE→h' y=h y)→K t' h' n':=by
  intro t' h' n' e1 e2 e3 e4;refine hK _ _ _ ?_
  first|clear hK K|clear hK|skip
  refine W.rseq (k:=2) rfl fun K hK=>?_;simp only[go_sem,e1];refine hK _ _ _ ?_;clear hK K;refine W.ret ?_;simp only[go_sem]
  exact⟨e2,by omega,e4⟩
 clear hK;refine W.rseq (k:=3) rfl fun K hK=>?_;simp only[go_sem,List.length_map];refine hK _ _ _ ?_;clear hK K
 refine W.block (W.while (fun mm t2 h2 n2=>∃(j:Nat),mm=S.length - j∧j≤S.length∧n≤n2∧EC g bE bM gp (C+15000*(j:Int)) h2 n0∧(∀y,y≠bE→h2 y=h y)∧(t2 0=.ptr bE 0 0∧t2 1=.ro (S.map eSe)∧t2 7=.ro (S.map eSe)∧t2 8=.int .i64 S.length)∧t2 9=.int .i64 j) S.length
  ⟨0,by simp,by simp,by omega,m.up (by omega),fun _ _=>rfl,⟨rfl,rfl,rfl,rfl⟩,rfl⟩ fun mm t2 h2 n2 ⟨j,i1,i2,i3,i4,i5,i6,i7⟩=>?_)
 obtain⟨a0,a1,a7,a8⟩:=i6;refine W.rseq (k:=1) rfl fun K hK=>?_;simp only[go_sem,a8,i7];refine hK _ _ _ ?_;clear hK K;refine W.seq ?_
 refine W.cond rfl (fun hc=>?_) fun hc=>?_
 ·refine W.skip ?_;simp only[go_sem];have hj:j<S.length:=by simp at hc;omega
  have hxk:(S.map eSe)[j]?=some (eSe (bg S j)):=by rw[List.getElem?_map,bg_some hj];rfl
  obtain⟨c,hE,⟨c0,c1⟩,hgp⟩:=i4.args;have hSj:=hSb j;have zE:∀j,¬bE=n2+j:=fun j=>by have:=i4.em.lE;omega
  refine W.seq ?_;refine W.block ?_;refine W.rseq (k:=3) rfl fun K hK=>?_;simp only[go_sem,a7,i7,hxk,eSe];refine hK _ _ _ ?_;clear hK K;refine W.region (k:=10) rfl ?_;simp only[go_sem,a0,hE,zE,List.length_map,wrap64 (show -9223372036854775808≤c+((bg S j).length:Int) by omega) (show c+((bg S j).length:Int)<9223372036854775808 by omega)];refine W.region (k:=2) rfl ?_;simp only[go_sem,i7]
  refine⟨S.length - (j+1),by omega,j+1,rfl,by omega,by omega,i4.em.ec (by omega) (by omega),fun y hy=>?_,⟨a0,a1,a7,a8⟩, ?_⟩
  ·simp only[go_sem,hy];exact i5 y hy
  ·rw[wrap64 (by omega) (by omega)];rfl
 ·refine W.exit ?_;simp only[go_sem];exact nx _ _ _ a1 (i4.up (by omega)) (by omega) i5
def AccR (g:Gr) (w:List Int) (S:List (List It)) (l:List (Nat→Nat)) (n:Nat) (r:AV) (h':Heap) (n':Nat):Prop:=
 ∃sv lv,r=.tup [.agg [.int .i64 1,.ro ((byL g w 0 l).2.map eIn),.bool (decide ((byL g w 0 l).2=(byL g w 1 l).2)),.int .i64 0,.int .u32 0,.nils],.agg [sv,lv],.bool (decide ((byL g w 0 l).1=0) && decide ((byL g w 1 l).1=0))]∧
  ((byL g w 0 l).2=(byL g w 1 l).2→sv=.ro (S.map eSe)∧lv=.nils)∧
  ((byL g w 0 l).2≠(byL g w 1 l).2→sv=.nils∧∃b,lv=.sl b 0 1 1∧n≤b∧b<n'∧h' b=some (.cells [[.ro ((byL g w 1 l).2.map eIn)]]))
set_option maxHeartbeats 8000000 in
theorem fz34 {g:Gr} (hg:SmG g) (hG:GoodG g) {bE bM n0:Nat} {gp:AV} {h:Heap} {n:Nat} {C:Int} (hC:C≤2^40) (m:EC g bE bM gp C h n0) (hn0:n0≤n) (w:List Int) (hw:w.length≤24) (hk:KeyW w) (S:List (List It)):
  FH pg Tq 34 [.ptr bE 0 0,.ro (w.map eIn),.ro (S.map eSe)] h n fun r h' n'=>∃l,RowsC g w l∧AccR g w S l n r h' n'∧EC g bE bM gp (C+6000) h' n0∧n≤n'∧∀y,y<n→y≠bE→y≠bM→h' y=h y:=by
 have mE:=m.em.lE;have mM:=m.em.lM;refine FH.of (N:=48) (rs:=#[.cell 6 37,.cell 7 41,.tmp 8]) Tryz.func34 rfl rfl (of_decide_eq_true rfl) rfl (by decide) ?_;refine W.rseq (k:=3) rfl fun K hK=>?_;simp only[go_sem];refine hK _ _ _ ?_;clear hK K;refine W.rseq (k:=8) rfl fun K hK=>?_;simp only[go_sem]
 refine VCall.heap (fz86 hg hG (by omega) (h:=upd (upd h n _) (n+1) _) (m.next (Nat.le_refl _) (fun y hy=>by rw[upd_app,if_neg (by omega),upd_app,if_neg (by omega)])) (by omega) w hw hk _ (.inl rfl) 0) fun r h1 n1 ⟨l,r1,r2,r3,r4,r5⟩=>?_
 subst r2;simp only[go_sem];refine hK _ _ _ ?_
 first|clear hK K|clear hK|skip
 refine W.rseq (k:=8) rfl fun K hK=>?_;simp only[go_sem]
 refine VCall.heap (fz86 hg hG (by omega) r3 (by omega) w hw hk _ (.inl rfl) 1) fun r h2 n2 ⟨l2,q1,q2,q3,q4,q5⟩=>?_
 have:l2=l:=q1.uniq r1;subst this;subst q2;simp only[go_sem];refine hK _ _ _ ?_
 first|clear hK K|clear hK|skip
 obtain⟨A,hA⟩:∃A,A=byL g w 0 l2:=⟨_,rfl⟩;obtain⟨B,hB⟩:∃B,B=byL g w 1 l2:=⟨_,rfl⟩;have hAl:A.2.length≤2000:=by rw[hA];exact by_len
 have hBl:B.2.length≤2000:=by rw[hB];exact by_len
 have k0:h2 n=some (.cells [[.int .i64 0,.nils,.bool false,.int .i64 0,.int .u32 0,.nils]]):=by
  refine(q5 n (by omega) (by omega) (by omega)).trans ((r5 n (by omega) (by omega) (by omega)).trans ?_);simp only[go_sem]
 have k1:h2 (n+1)=some (.cells [[.nils,.nils]]):=by
  refine(q5 (n+1) (by omega) (by omega) (by omega)).trans ((r5 (n+1) (by omega) (by omega) (by omega)).trans ?_);simp only[go_sem]
 have kf:∀y,y<n→y≠bE→y≠bM→h2 y=h y:=fun y h1 h3 h4=>by
  refine(q5 y (by omega) h3 h4).trans ((r5 y (by omega) h3 h4).trans ?_);simp only[go_sem,show ¬y=n by omega,show ¬y=n+1 by omega]
 have hl:=q1;have z0:∀j,¬n=n2+j:=fun j=>by omega
 have z1:∀j,¬n+1=n2+j:=fun j=>by omega
 have z1':¬n+1=n:=by omega
 have zlt:∀y,y<n→∀j,¬y=n2+j:=fun y hy j=>by omega
 have zz:∀j,n2+j≠n∧n2+j≠n+1:=fun j=>by omega
 rw[←hA,←hB];refine W.rseq (k:=7) rfl fun K hK=>?_;simp only[go_sem];refine VCall.frz 6 (fz88 A.2 B.2 (by omega) (by omega)) rfl ?_;try simp only[go_sem];refine hK _ _ _ ?_;clear hK K
 have kE:∀(H:Heap),(∀y,y<n→H y=h2 y)→EC g bE bM gp (C+6000) H n0∧∀y,y<n→y≠bE→y≠bM→H y=h y:=fun H hH=>
  ⟨(q3.up (by omega)).next (Nat.le_refl _) fun y hy=>hH y (by omega),fun y hy h1 h2=>(hH y hy).trans (kf y hy h1 h2)⟩
 by_cases he:A.2=B.2
 ·refine W.seq ?_;refine W.rseq (k:=2) rfl fun K hK=>?_;simp only[go_sem,decide_eq_true he];refine hK _ _ _ ?_;clear hK K;refine W.condT (by simp only[go_sem,decide_eq_true he]) ?_
  cases hf:decide (A.1=0)
  all_goals
   refine W.rseq (k:=10) rfl fun K hK=>?_;simp only[go_sem,k0,k1,z0,z1,z1',hf];refine hK _ _ _ ?_;clear hK K;refine W.ret ?_;simp only[go_sem,z1',k0,k1,z0,z1]
   refine⟨l2,hl,⟨_,_, ?_,fun _=>⟨rfl,rfl⟩,fun q=>absurd (by rw[←hA,←hB];exact he) q⟩,(kE _ fun y hy=>?_).1,by omega,(kE _ fun y hy=>?_).2⟩
   ·rw[←hA,←hB,hf,decide_eq_true he];rfl
   all_goals simp only[go_sem,zlt y hy,show ¬y=n by omega,show ¬y=n+1 by omega]
 ·refine W.seq ?_;refine W.rseq (k:=2) rfl fun K hK=>?_;simp only[go_sem,decide_eq_false he];refine hK _ _ _ ?_;clear hK K;refine W.condF (by simp only[go_sem,decide_eq_false he]) ?_;refine W.skip ?_;simp only[go_sem]
  cases hf:decide (A.1=0)
  all_goals
   refine W.rseq (k:=11) rfl fun K hK=>?_;simp only[go_sem,k0,k1,z0,z1,z1',hf];refine hK _ _ _ ?_;clear hK K;refine W.ret ?_;simp only[go_sem,z1',k0,k1,z0,z1]
   refine⟨l2,hl,⟨_,_, ?_,fun q=>absurd (by rw[←hA,←hB] at q;exact q) he,fun _=>⟨rfl,n2+11,rfl,by omega,by omega, ?_⟩⟩,(kE _ fun y hy=>?_).1,by omega,(kE _ fun y hy=>?_).2⟩
   ·rw[←hA,←hB,hf,decide_eq_false he];rfl
   ·rw[←hB];simp only[go_sem,show ¬n2+11=n by omega,show ¬n2+11=n+1 by omega]
   all_goals simp only[go_sem,zlt y hy,show ¬y=n by omega,show ¬y=n+1 by omega]
end Go.Av
