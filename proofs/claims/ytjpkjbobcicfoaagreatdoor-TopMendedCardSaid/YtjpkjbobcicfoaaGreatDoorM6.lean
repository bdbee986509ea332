/-
  Layer 23: what is done with a token. Conditions: none.
-/
import Derived.Test.YtjpkjbobcicfoaaGreatDoorM2
import Derived.Test.YtjpkjbobcicfoaaGreatDoorEK
import Derived.Test.YtjpkjbobcicfoaaGreatDoorEP
set_option linter.unusedSimpArgs false
set_option linter.unusedVariables false
namespace Go.Av
open Go.Proofs
set_option maxRecDepth 100000
structure MD (g:Gr) (bm:Nat) (row:List Int) (ed:List Ed) (h:Heap) (n:Nat):Prop where
 lt:bm<n
 cell:∃rv ev,h bm=some (.cells [[.int .i64 g.terms,.int .i64 g.nons,.int .i64 g.start,.ro (g.prods.map ePr),rv,ev]])∧(rv=.ro (row.map eIn)∨(row≠[]∧∃b,rv=.sl b 0 row.length 1∧bm<b∧b<n∧h b=some (.cells (row.map eIn))))∧SlL eEd 3 h (bm+1) n ev ed
set_option maxHeartbeats 8000000 in
theorem fz165 {g:Gr} {bm:Nat} {row:List Int} {ed:List Ed} {h:Heap} {n:Nat} (m:MD g bm row ed h n) (hr:row.length≤30) (bl:Nat) (l:List Int) (hbl:bl<n) (hl:h bl=some (.cells (l.map eIn))) (hl1:0<l.length) (hl2:l.length≤30):
  FH pg Tq 165 [.ptr bm 0 0,.sl bl 0 l.length 1] h n fun r h' n'=>∃b',r=.sl b' 0 (row++l).length 1∧n≤b'∧b'<n'∧h' b'=some (.cells ((row++l).map eIn))∧∀y,y<n→h' y=h y:=by
 obtain⟨m1,rv,ev,m2,m3,m4⟩:=m;have zm:∀j,¬bm=n+j:=fun j=>by omega
 have zl:∀j,¬bl=n+j:=fun j=>by omega
 have htk:(l.map eIn).take l.length=l.map eIn:=List.take_of_length_le (by simp)
 have hle:¬(l.map eIn).isEmpty=true:=by
  cases l with
  |nil=>simp at hl1
  |cons _ _=>simp
 refine FH.of (N:=12) (rs:=#[.tmp 4]) Tryz.func165 rfl rfl (of_decide_eq_true rfl) rfl (by decide) ?_;refine W.rseq (k:=1) rfl fun K hK=>?_;simp only[go_sem];refine hK _ _ _ ?_;clear hK K;refine W.rseq (k:=8) rfl fun K hK=>?_;simp only[go_sem,m2,zm]
 by_cases hre:row=[]
 ·have hrv:rv=.ro []:=by
   rcases m3 with q|⟨q,_⟩
   ·rw[q,hre];rfl
   ·exact absurd hre q
  subst hrv hre;refine VCall.heap (fe87 _ _) fun r h5 n5 ⟨r1,r2,r3⟩=>?_
  subst r1 r2 r3;simp only[go_sem,hl,List.length_map,htk,hle,show ¬l.length=0 by omega,show l.length*8≤140737488355328 by omega];refine hK _ _ _ ?_
  first|clear hK K|clear hK|skip
  refine W.ret ?_;simp only[go_sem];refine⟨n+7,rfl,by omega,by omega, ?_,fun y hy=>?_⟩
  ·simp only[go_sem]
  ·simp only[go_sem,show ∀j,¬y=n+j from fun j=>by omega]
 ·have hfr:rf true 8 h rv=some (.ro (row.map eIn)):=by
   rcases m3 with rfl|⟨_,b,rfl,_,_,q⟩
   ·simp[rf]
   ·exact rf_sla (d:=7) q (by simp) rfe_in
  refine VCall.ownq (as':=[.ro (row.map eIn)]) 9 (rfs_cons hfr rfs_nil) (fz87 row (by omega) hre) ?_;simp only[go_sem,hl,zl,List.length_map,htk,and_false,if_false,show(row.length+l.length)*8≤140737488355328 by omega];refine hK _ _ _ ?_
  first|clear hK K|clear hK|skip
  refine W.ret ?_;simp only[go_sem];refine⟨n+7,by rw[List.length_append],by omega,by omega, ?_,fun y hy=>?_⟩
  ·simp only[go_sem];rw[List.map_append]
  ·simp only[go_sem,show ∀j,¬y=n+j from fun j=>by omega]
noncomputable def begB (g:Gr) (u:List Int) (l:List (Nat→Nat)):Bool:=decide (0<l.length) && (rowAt l 0 24).testBit g.start.toNat
set_option maxHeartbeats 8000000 in
theorem fz164 {g:Gr} (hg:SmG g) {bm:Nat} {row:List Int} {ed:List Ed} {h:Heap} {n:Nat} (m:MD g bm row ed h n) (hr:row.length≤30) (bl:Nat) (l:List Int) (hbl:bl<n) (hl:h bl=some (.cells (l.map eIn))) (hl1:0<l.length) (hl2:l.length≤30)
  (L:List (Nat→Nat)) (hL:PF pg Tq 102 [.agg (eGr g),.ro ((row++l).map eIn)] (.ro (L.map eRw))) (hLr:RwIn L) (hLl:L.length≤40):
  FH pg Tq 164 [.ptr bm 0 0,.sl bl 0 l.length 1] h n fun r h' n'=>r=.bool (begB g (row++l) L)∧n≤n'∧∀y,y<n→h' y=h y:=by
 have m':=m;obtain⟨m1,rv,ev,m2,m3,m4⟩:=m';obtain⟨_,_,⟨hs0,hs1⟩,_⟩:=right_in hg.right;obtain⟨⟨hn1,hn2⟩,_⟩:=right_in hg.right
 have hw:=fz165 (m:=(⟨Nat.lt_of_lt_of_le m1 (Nat.le_add_right n 10),rv,ev,m2,by
  rcases m3 with q|⟨q0,b,q1,q2,q3,q4⟩
  ·exact .inl q
  ·exact .inr ⟨q0,b,q1,q2,by omega,q4⟩,m4.next rfl (fun x hx hx'=>rfl) (by omega) (Nat.le_refl _)⟩:MD g bm row ed h (n+10))) hr bl l (by omega) hl hl1 hl2
 refine FH.of (N:=31) (rs:=#[.tmp 4]) Tryz.func164 rfl rfl (of_decide_eq_true rfl) rfl (by decide) ?_;refine W.rseq (k:=1) rfl fun K hK=>?_;simp only[go_sem];refine hK _ _ _ ?_;clear hK K
 refine W.dseqB (k:=9) rfl fun K hK=>?_
 refine VB.run 3 rfl ?_;simp only[go_sem];refine VB.loadR (b:=bm) (j:=0) (off:=0) (cs':=eGr g) (v:=.agg (eGr g)) tabOK rfl rfl rfl rfl th24 rfl ?_ rfl ?_
 ·simp only[rdQ,m2];rfl
 refine VB.run 2 rfl ?_;simp only[go_sem];refine VB.callK tabOK follows [(bm,.seg 0 0 4)] [] rfl rfl rfl rfl rfl rfl rfl hw (fun r h5 n5 ⟨b',r1,r2,r3,r4,r5⟩=>⟨fun q hq=>?_,fun b hb=>(by cases hb)⟩) fun r h5 n5 ⟨b',r1,r2,r3,r4,r5⟩=>?_
 ·have:q=(bm,.seg 0 0 4):=by simpa using hq
  subst this;simp only[r5 bm (by omega)]
 subst r1;refine VB.run 2 rfl ?_;simp only[go_sem];refine VCall.frzq (as':=[.agg (eGr g),.ro ((row++l).map eIn)]) 9 (rfs_cons (by simp[rf,rfs,eGr]) (rfs_cons (rf_sla (d:=7) r4 (by simp) rfe_in) rfs_nil)) hL ?_;simp only[go_sem];refine VB.nil ?_;refine hK _ _ _ _ (drawOK_re (ren1_inj bm) (by simp only[List.reverse_cons,List.reverse_nil,List.nil_append,List.cons_append,List.map_cons,List.map_nil,Cls.re,ren1_at];kernel_rfl)) ?_;clear hK K;have k2:h5 bm=_:=(r5 bm (by omega)).trans m2;have zm5:∀j,¬bm=n5+j:=fun j=>by omega
 cases L with
 |nil=>
  refine W.dseq (k:=18) rfl fun K hK=>?_;simp only[go_sem];refine hK _ _ _ _ (by kernel_rfl) ?_;clear hK K;refine W.ret ?_;simp only[go_sem]
  exact⟨rfl,by omega,fun y hy=>r5 y (by omega)⟩
 |cons f L=>
  obtain⟨ν,hν⟩:∃ν:Nat,g.start=ν:=⟨g.start.toNat,by omega⟩;have hνt:g.start.toNat=ν:=by omega
  have hf:f 24<2^32:=hLr 0 24;have hw1:=shr32 (x:=f 24) (show ν<32 by omega);have hw2:=and32 (x:=f 24 / 2^ν) (Nat.lt_of_le_of_lt (Nat.div_le_self _ _) hf);have hbe:begB g (row++l) (f::L)=(f 24).testBit ν:=by unfold begB;rw[hνt];simp[rowAt]
  refine W.dseq (k:=18) rfl fun K hK=>?_;simp only[go_sem,k2,zm5,List.map_cons,List.length_map,List.length_cons,show(0:Int)<((L.length+1:Nat):Int) by omega,eR_len,eR_get (show 24<25 by omega),eR_scal,hν,hw1,hw2,bit_is1,show(bm<n5)=True from eq_true (by omega)];refine hK _ _ _ _ (by kernel_rfl) ?_;clear hK K;refine W.ret ?_;simp only[go_sem]
  exact⟨by rw[hbe],by omega,fun y hy=>r5 y (by omega)⟩
end Go.Av
namespace Go.Av
open Go.Proofs
set_option maxRecDepth 100000
theorem sl_apart {row:List Int} {ed:List Ed} {h:Heap} {b b2:Nat} (hr:row≠[]) (h1:h b=some (.cells (row.map eIn))) (h2:h b2=some (.cells (ed.map eEd))):b≠b2:=by
 intro e;rw[e,h2] at h1;injection h1 with h1
 injection h1 with h1
 cases row with
 |nil=>exact hr rfl
 |cons t row=>
  cases ed with
  |nil=>cases h1
  |cons x ed=>
   rw[List.map_cons,List.map_cons] at h1;injection h1 with h1 _
   cases h1
set_option maxHeartbeats 8000000 in
theorem fz163 {g:Gr} {bm:Nat} {row:List Int} {ed:List Ed} {h:Heap} {n:Nat} (m:MD g bm row ed h n) (hed:ed.length<2^30) (x:Ed) (bt:Nat) (hbt:bt<n) (ht:h bt=some (.cells [[.ptr bm 0 0]])):
  FH pg Tq 163 [.agg (eEd x),.ptr bt 0 0] h n fun r h' n'=>r=.tup []∧MD g bm row (ed++[x]) h' n'∧n≤n'∧h' bt=h bt∧∀y,y<bm→h' y=h y:=by
 obtain⟨m1,rv,ev,m2,m3,m4⟩:=m
 have hne:bt≠bm:=fun e=>by
  rw[e,m2] at ht;injection ht with ht
  injection ht with ht
  injection ht with ht _
  cases ht
 have zt:¬bt=n:=by omega
 have zm:¬bm=n:=by omega
 have zm':∀j,¬bm=n+j:=fun j=>by omega
 refine FH.of (N:=13) (rs:=#[]) Tryz.func163 rfl rfl (of_decide_eq_true rfl) rfl (by decide) ?_;refine W.rseq (k:=1) rfl fun K hK=>?_;simp only[go_sem];refine hK _ _ _ ?_;clear hK K
 refine W.drawB (k:=11) rfl ?_;refine VB.loadR (b:=bt) (j:=0) (off:=0) (cs':=[.ptr bm 0 0]) (v:=.ptr bm 0 0) tabOK rfl rfl rfl rfl th200 rfl ?_ rfl ?_
 ·simp only[rdQ,go_sem,zt,ht]
 rcases m4 with ⟨w0,rfl⟩|⟨b,rfl,w1,w2,w3⟩
 ·refine VB.run 10 rfl ?_;simp only[go_sem,ht,zt,zm,zm',m2,show(bm<n+1)=True from eq_true (by omega),show(bt<n+1)=True from eq_true (by omega)];refine VB.nil ?_;refine⟨drawOK_re (ren1_inj bt) (by simp only[List.reverse_cons,List.reverse_nil,List.nil_append,List.cons_append,List.map_cons,List.map_nil,Cls.re,ren1_at];kernel_rfl), ?_⟩;simp only[go_sem];refine⟨⟨by omega,rv,.sl (n+8) 0 1 3,by simp only[go_sem], ?_,.inr ⟨n+8,by rw[w0];rfl,by omega,by omega, ?_⟩⟩,by omega, ?_,fun y hy=>?_⟩
  ·refine m3.imp id fun⟨q0,b,q1,q2,q3,q4⟩=>⟨q0,b,q1,q2,by omega, ?_⟩
   simp only[go_sem,show ¬b=bm by omega,show ¬b=n by omega,show ∀j,¬b=n+j from fun j=>by omega,q4]
  ·rw[w0];simp only[go_sem,show ¬n+8=bm by omega];rfl
  ·simp only[go_sem,hne,zt,ht,show ∀j,¬bt=n+j from fun j=>by omega]
  ·simp only[go_sem,show ¬y=bm by omega,show ¬y=n by omega,show ∀j,¬y=n+j from fun j=>by omega]
 ·have hbb:bt≠b:=fun e=>by
   rw[e,w3] at ht;injection ht with ht
   injection ht with ht
   cases ed with
   |nil=>cases ht
   |cons x ed=>
    rw[List.map_cons] at ht;injection ht with ht _
    cases ht
  refine VB.run 6 rfl ?_;simp only[go_sem,ht,zt,zm,zm',m2,show(bm<n+1)=True from eq_true (by omega),show(bt<n+1)=True from eq_true (by omega)];refine VB.plainK tabOK [(bt,.seg 0 0 1)] [] rfl rfl rfl (by simp only[go_sem,w3,show ¬b=n by omega,show ∀j,¬b=n+j from fun j=>by omega,List.length_map,and_false,if_false,Nat.lt_irrefl,show(ed.length+1)*24≤140737488355328 by omega,show ¬n+1≤b by omega];rfl) ⟨fun q hq=>?_,fun b hb=>(by cases hb)⟩ ?_
  ·have:q=(bt,.seg 0 0 1):=by simpa using hq
   subst this;simp only[go_sem,rdQ,ht,zt,show ∀j,¬bt=n+j from fun j=>by omega,show ¬bt=b from fun e=>hbb e]
  refine VB.run 3 rfl ?_;simp only[go_sem,m2,zm,zm',show ¬bm=b by omega];refine VB.nil ?_;refine⟨drawOK_re (ren1_inj bt) (by simp only[List.reverse_cons,List.reverse_nil,List.nil_append,List.cons_append,List.map_cons,List.map_nil,Cls.re,ren1_at];kernel_rfl), ?_⟩;simp only[go_sem];refine⟨⟨by omega,rv,.sl (n+8) 0 (ed.length+1) 3,by simp only[go_sem], ?_,.inr ⟨n+8,by rw[List.length_append];rfl,by omega,by omega, ?_⟩⟩,by omega, ?_,fun y hy=>?_⟩
  ·refine m3.imp id fun⟨q0,c,q1,q2,q3,q4⟩=>⟨q0,c,q1,q2,by omega, ?_⟩
   simp only[go_sem,show ¬c=bm by omega,show ¬c=n by omega,show ∀j,¬c=n+j from fun j=>by omega,show ¬c=b from sl_apart q0 q4 w3,q4]
  ·simp only[go_sem,show ¬n+8=bm by omega];rw[List.map_append];rfl
  ·simp only[go_sem,hne,zt,hbb,ht,show ∀j,¬bt=n+j from fun j=>by omega]
  ·simp only[go_sem,show ¬y=bm by omega,show ¬y=b by omega,show ¬y=n by omega,show ∀j,¬y=n+j from fun j=>by omega]
end Go.Av
namespace Go.Av
open Go.Proofs
set_option maxRecDepth 100000
section
variable {P:Program} {Θ:Tab} {N:Nat} {t:Fr} {h:Heap} {n0 i x:Nat} {ops:List Oper} {cs:List Cls} {K:List Cls→Fr→Heap→Nat→Prop} {o:Oper} {rest:List Oper}
theorem VB.callBm (hT:TabOK P Θ) (hm:P.follows .mixedOrders=true) (ho:ops[i]?=some o) (hgu:o.guard=none) (hd:inN N o.dst=true) {cl:Call} {f:Operand} {k:FuncId} {first ags:List AV} (hop:o.op=.call cl) (hc:cl.callee=.value f) (hf:ev t f=some (.bm k first)) (ha:evs t cl.args.toList=some ags)
  {R:AV→Heap→Nat→Prop} (hF:FH P Θ k (first++ags) h x R) (hv:∀r h' x',R r h' x'→VB P Θ N ops n0 (i+1) rest (put t o.dst r) h' x' (.W::cs) K):VB P Θ N ops n0 i (o::rest) t h x cs K:=by
 obtain⟨r,h',x',hb,hR⟩:=hF;exact VB.op (op_callB (by simpa using ho) (gd_none hgu) hd hop hc hf ha (sound hT hm hb)) (hv r h' x' hR)
theorem W.regionB {n:Nat} {Q:AEx→Fr→Heap→Nat→Prop} {id:Nat} {k:Nat} (hk:ops.length=k) (hv:VB P Θ N ops n 0 ops t h (n+k) [] fun _ t h n=>Q .normal t h n):W P Θ N (.region id ⟨ops⟩ false) t h n Q:=by
 subst hk;obtain⟨cs,t',h',x',hb,hk⟩:=hv;refine⟨.normal,t',h',x',.region (cs:=cs) ?_ (fun q=>by cases q),hk⟩;rw[List.range_eq_range'];exact hb
theorem W.rseqB {n:Nat} {Q:AEx→Fr→Heap→Nat→Prop} {id:Nat} {k:Nat} {b:Code} (hk:ops.length=k) (hv:∀K:Fr→Heap→Nat→Prop,(∀t h n,W P Θ N b t h n Q→K t h n)→VB P Θ N ops n 0 ops t h (n+k) [] fun _ t h n=>K t h n):W P Θ N (.seq (.region id ⟨ops⟩ false) b) t h n Q:=
 W.seq (W.regionB hk (hv _ fun _ _ _ q=>q))
end
theorem fz164' {g:Gr} (hg:SmG g) {bm:Nat} {row:List Int} {ed:List Ed} {h:Heap} {n:Nat} (m:MD g bm row ed h n) (hr:row.length≤30) (bl:Nat) (l:List Int) (hbl:bl<n) (hl:h bl=some (.cells (l.map eIn))) (hl1:0<l.length) (hl2:l.length≤30):
  FH pg Tq 164 [.ptr bm 0 0,.sl bl 0 l.length 1] h n fun r h' n'=>∃b,r=.bool b∧(b=true→fitG g (row++l)=true)∧n≤n'∧∀y,y<n→h' y=h y:=by
 obtain⟨L,h1,h2,h3⟩:=fz102 g hg.small (row++l) (by rw[List.length_append];omega);cases hf:fitG g (row++l)
 ·have hL:=h2 hf;obtain⟨r,h',n',hb,r1,r2,r3⟩:=fz164 hg m hr bl l hbl hl hl1 hl2 L h1 (by rw[hL];intro j i;simp[rowAt]) (by rw[hL];simp);refine⟨r,h',n',hb,_,r1,fun q=>?_,r2,r3⟩;rw[hL] at q;simp[begB] at q
 ·have hL:=h3 hf;have hfl:=fit_len hf;obtain⟨r,h',n',hb,r1,r2,r3⟩:=fz164 hg m hr bl l hbl hl hl1 hl2 L h1 (rowsC_in hL) (by rw[hL.1];omega);exact⟨r,h',n',hb,_,r1,fun _=>rfl,r2,r3⟩
theorem MD.next {g:Gr} {bm:Nat} {row:List Int} {ed:List Ed} {h h':Heap} {n n':Nat} (m:MD g bm row ed h n) (hn:n≤n') (hh:∀y,y<n→h' y=h y):MD g bm row ed h' n':=by
 obtain⟨m1,rv,ev,m2,m3,m4⟩:=m;refine⟨by omega,rv,ev,(hh _ m1).trans m2,m3.imp id fun⟨q0,b,q1,q2,q3,q4⟩=>⟨q0,b,q1,q2,by omega,(hh _ q3).trans q4⟩,m4.next rfl (fun x hx hx'=>hh x hx') hn (Nat.le_refl _)⟩
set_option maxHeartbeats 8000000 in
theorem fz166 {g:Gr} (hg:SmG g) {bm:Nat} {row:List Int} {ed:List Ed} {h:Heap} {n:Nat} (m:MD g bm row ed h n) (hr:row.length≤28) (t:Int):
  FH pg Tq 166 [.ptr bm 0 0,.int .i64 t] h n fun r h' n'=>∃a:Int,r=.int .i64 a∧(a<0∨(0≤a∧a<g.terms∧fitG g (row++[a,t])=true))∧n≤n'∧∀y,y<n→h' y=h y:=by
 obtain⟨m1,rv,ev,m2,m3,m4⟩:=id m;obtain⟨_,⟨hT0,hT1⟩,_⟩:=right_in hg.right;obtain⟨T,hT⟩:∃T:Nat,g.terms=T:=⟨g.terms.toNat,by omega⟩;have zm:∀j,¬bm=n+j:=fun j=>by omega
 refine FH.of (N:=24) (rs:=#[.tmp 4]) Tryz.func166 rfl rfl (of_decide_eq_true rfl) rfl (by decide) ?_;refine W.rseq (k:=1) rfl fun K hK=>?_;simp only[go_sem];refine hK _ _ _ ?_;clear hK K;refine W.rseq (k:=3) rfl fun K hK=>?_
 simp only[go_sem,aopR,aopX,five,Cls.five,List.isEmpty,show(#[Operand.tmp 7]:Array Operand).isEmpty=false from rfl];refine hK _ _ _ ?_
 first|clear hK K|clear hK|skip
 refine W.seqk fun K hK=>?_
 have nx:∀(t':Fr) (h':Heap) (n':Nat),n≤n'→(∀y,y<n→h' y=h y)→K t' h' n':=by
  intro t' h' n' e1 e2;refine hK _ _ _ ?_
  first|clear hK K|clear hK|skip
  refine W.rseq (k:=1) rfl fun K hK=>?_;simp only[go_sem];refine hK _ _ _ ?_;clear hK K;refine W.ret ?_;simp only[go_sem]
  exact⟨-1,rfl,.inl (by omega),by omega,e2⟩
 clear hK;refine W.rseq (k:=6) rfl fun K hK=>?_;simp only[go_sem,m2,zm];refine hK _ _ _ ?_;clear hK K
 refine W.block (W.while (fun mm t2 h2 n2=>∃a:Nat,mm=T - a∧a≤T∧n≤n2∧(∀y,y<n→h2 y=h y)∧(t2 1=.int .i64 t∧t2 5=.bm 164 [.ptr bm 0 0]∧t2 13=.int .i64 T)∧t2 14=.int .i64 a) T
  ⟨0,by simp,by simp,by omega,fun _ _=>rfl,⟨rfl,rfl,by rw[←hT];rfl⟩,rfl⟩ fun mm t2 h2 n2 ⟨a,i1,i2,i3,i4,⟨a1,a5,a13⟩,i6⟩=>?_)
 refine W.rseq (k:=1) rfl fun K hK=>?_;simp only[go_sem,a13,i6];refine hK _ _ _ ?_;clear hK K;refine W.seq ?_
 refine W.cond rfl (fun hc=>?_) fun hc=>?_
 ·refine W.skip ?_;simp only[go_sem];have ha:a<T:=by simp at hc;omega
  refine W.seq ?_;refine W.block ?_;refine W.rseq (k:=2) rfl fun K hK=>?_;simp only[go_sem,i6];refine hK _ _ _ ?_;clear hK K
  refine W.rseqB (k:=5) rfl fun K hK=>?_
  refine VB.run 4 rfl ?_;simp only[go_sem,a1,a5];have hbg:=fz164' (h:=upd h2 (n2+6) (some (.cells [[.int .i64 a],[.int .i64 t]]))) (n:=n2+8) hg (m.next (n':=n2+8) (by omega) (fun y hy=>by rw[upd_app,if_neg (by omega)];exact i4 y hy)) (by omega) (n2+6) [(a:Int),t] (by omega) (by rw[upd_app,if_pos rfl];rfl) (by simp) (by simp);refine VB.callBm tabOK follows rfl rfl rfl rfl rfl rfl rfl hbg fun r h5 n5 ⟨b,r1,r2,r3,r4⟩=>?_
  subst r1;refine VB.nil ?_;have hfr:∀y,y<n→h5 y=h y:=fun y hy=>(r4 y (by omega)).trans (by rw[upd_app,if_neg (by omega)];exact i4 y hy)
  refine hK _ _ _ ?_;clear hK K;cases b
  ·refine W.condF (by simp only[go_sem]) ?_;refine W.skip ?_;simp only[go_sem];refine W.region (k:=2) rfl ?_;simp only[go_sem,i6];refine⟨T - (a+1),by omega,a+1,rfl,by omega,by omega,hfr,⟨a1,a5,a13⟩, ?_⟩;rw[wrap64 (by omega) (by omega)];rfl
  ·refine W.condT (by simp only[go_sem]) ?_;refine W.rseq (k:=2) rfl fun K hK=>?_;simp only[go_sem];refine hK _ _ _ ?_;clear hK K;refine W.ret ?_;simp only[go_sem]
   exact⟨a,rfl,.inr ⟨by omega,by omega,r2 rfl⟩,by omega,hfr⟩
 ·refine W.exit ?_;simp only[go_sem];exact nx _ _ _ (by omega) i4
end Go.Av
namespace Go.Av
open Go.Proofs
set_option maxRecDepth 100000
def TokR (g:Gr) (pos t:Int) (row:List Int) (ed:List Ed) (row':List Int) (ed':List Ed):Prop:=
 (ed'=ed∧row'=row++[t]∧fitG g row'=true)∨(∃a:Int,ed'=ed++[⟨pos,false,a⟩]∧row'=row++[a,t]∧0≤a∧a<g.terms∧fitG g row'=true)∨(ed'=ed++[⟨pos,true,0⟩]∧row'=row)
set_option maxHeartbeats 16000000 in
theorem fz100 {g:Gr} (hg:SmG g) {bm:Nat} {row:List Int} {ed:List Ed} {h:Heap} {n:Nat} (m:MD g bm row ed h n) (hr:row.length≤28) (hed:ed.length<2^30) (pos t:Int):
  FH pg Tq 100 [.ptr bm 0 0,.int .i64 pos,.int .i64 t] h n fun r h' n'=>r=.tup []∧n≤n'∧(∀y,y<bm→h' y=h y)∧∃row' ed',MD g bm row' ed' h' n'∧TokR g pos t row ed row' ed':=by
 have mlt:=m.lt;refine FH.of (N:=42) (rs:=#[]) Tryz.func100 rfl rfl (of_decide_eq_true rfl) rfl (by decide) ?_;refine W.rseq (k:=1) rfl fun K hK=>?_;simp only[go_sem];refine hK _ _ _ ?_;clear hK K;refine W.rseq (k:=2) rfl fun K hK=>?_;simp only[go_sem];refine hK _ _ _ ?_;clear hK K
 have m0:MD g bm row ed (upd h n (some (.cells [[.ptr bm 0 0]]))) (n+3):=m.next (by omega) (fun y hy=>by rw[upd_app,if_neg (by omega)]);refine W.seq ?_;refine W.rseq (k:=4) rfl fun K hK=>?_;simp only[go_sem]
 have hb1:=fz164' (h:=upd (upd h n (some (.cells [[.ptr bm 0 0]]))) (n+5) (some (.cells [[.int .i64 t]]))) (n:=n+7) hg (m0.next (n':=n+7) (by omega) (fun y hy=>by rw[upd_app,if_neg (by omega)])) (by omega) (n+5) [t] (by omega) (by rw[upd_app,if_pos rfl];rfl) (by simp) (by simp);refine VCall.heap hb1 fun r h1 n1 ⟨b,r1,r2,r3,r4⟩=>?_
 subst r1;simp only[go_sem];refine hK _ _ _ ?_
 first|clear hK K|clear hK|skip
 have k0:h1 n=some (.cells [[.ptr bm 0 0]]):=(r4 n (by omega)).trans (by simp only[go_sem]);have kf:∀y,y<n→h1 y=h y:=fun y hy=>(r4 y (by omega)).trans (by simp only[go_sem,show ∀j,¬y=n+j from fun j=>by omega,show ¬y=n by omega])
 have m1:MD g bm row ed h1 n1:=m.next (by omega) kf;cases b
 ·refine W.condF (by simp only[go_sem]) ?_;refine W.skip ?_;simp only[go_sem];have k0':∀j,¬n=n1+j:=fun j=>by omega
  refine W.seq ?_;refine W.rseq (k:=4) rfl fun K hK=>?_;simp only[go_sem,k0,k0']
  refine VCall.heap (fz166 hg (m1.next (by omega) (fun _ _=>rfl)) hr t) fun r h2 n2 ⟨a,s1,s2,s3,s4⟩=>?_
  subst s1;simp only[go_sem];refine hK _ _ _ ?_
  first|clear hK K|clear hK|skip
  have m2:MD g bm row ed h2 n2:=m1.next (by omega) (fun y hy=>s4 y (by omega));have k2:h2 n=some (.cells [[.ptr bm 0 0]]):=(s4 n (by omega)).trans k0;have kf2:∀y,y<n→h2 y=h y:=fun y hy=>(s4 y (by omega)).trans (kf y hy)
  have k2':∀j,¬n=n2+j:=fun j=>by omega
  rcases s2 with s2|⟨s2,s2',s2''⟩
  ·refine W.rseq (k:=2) rfl fun K hK=>?_;simp only[go_sem,show(0≤a)=False from eq_false (by omega)];refine hK _ _ _ ?_;clear hK K;refine W.condF (by simp only[go_sem]) ?_;refine W.skip ?_;simp only[go_sem];refine W.region (k:=4) rfl ?_;simp only[go_sem]
   refine VCall.heap (fz163 (m2.next (by omega) (fun _ _=>rfl)) hed ⟨pos,true,0⟩ n (by omega) k2) fun r h3 n3 ⟨u1,u2,u3,u5,u4⟩=>?_
   simp only[go_sem];exact⟨by omega,fun y hy=>(u4 y hy).trans (kf2 y (by omega)),row,ed++[⟨pos,true,0⟩],u2.next (by omega) (fun _ _=>rfl),.inr (.inr ⟨rfl,rfl⟩)⟩
  ·refine W.rseq (k:=2) rfl fun K hK=>?_;simp only[go_sem,show(0≤a)=True from eq_true s2];refine hK _ _ _ ?_;clear hK K;refine W.condT (by simp only[go_sem]) ?_;refine W.rseq (k:=5) rfl fun K hK=>?_;simp only[go_sem]
   refine VCall.heap (fz163 (m2.next (by omega) (fun _ _=>rfl)) hed ⟨pos,false,a⟩ n (by omega) k2) fun r h3 n3 ⟨u1,u2,u3,u5,u4⟩=>?_
   simp only[go_sem];refine hK _ _ _ ?_
   first|clear hK K|clear hK|skip
   have k3:h3 n=some (.cells [[.ptr bm 0 0]]):=u5.trans k2;refine W.dseqB (k:=9) rfl fun K hK=>?_
   refine VB.loadR (b:=n) (j:=0) (off:=0) (cs':=[.ptr bm 0 0]) (v:=.ptr bm 0 0) tabOK rfl rfl rfl rfl th200 rfl ?_ rfl ?_
   ·simp only[rdQ,k3];rfl
   refine VB.run 4 rfl ?_;simp only[go_sem,k3,show(n<n3)=True from eq_true (by omega)];have hw:=fz165 (h:=upd h3 (n3+4) (some (.cells [[.int .i64 a],[.int .i64 t]]))) (n:=n3+9) (u2.next (n':=n3+9) (by omega) (fun y hy=>by rw[upd_app,if_neg (by omega)])) (by omega) (n3+4) [a,t] (by omega) (by rw[upd_app,if_pos rfl];rfl) (by simp) (by simp);refine VB.callK tabOK follows [(n,.seg 0 0 1)] [] rfl rfl rfl rfl rfl rfl rfl hw (fun r h5 n5 ⟨b',q1,q2,q3,q4,q5⟩=>⟨fun q hq=>?_,fun b hb=>(by cases hb)⟩) fun r h5 n5 ⟨b',q1,q2,q3,q4,q5⟩=>?_
   ·have:q=(n,.seg 0 0 1):=by simpa using hq
    subst this;simp only[q5 n (by omega)]
   subst q1;have u2l:=u2.lt;obtain⟨rv,ev,w2,w3,w4⟩:=u2.cell;have k5:∀y,y<n3→h5 y=h3 y:=fun y hy=>(q5 y (by omega)).trans (by rw[upd_app,if_neg (by omega)])
   refine VB.run 3 rfl ?_;simp only[go_sem,k5 bm (by omega),w2];refine VB.nil ?_;refine hK _ _ _ _ (drawOK_re (ren1_inj n) (by simp only[List.reverse_cons,List.reverse_nil,List.nil_append,List.cons_append,List.map_cons,List.map_nil,Cls.re,ren1_at];kernel_rfl)) ?_;clear hK K;refine W.ret ?_;simp only[go_sem];refine⟨by omega,fun y hy=>?_,row++[a,t],ed++[⟨pos,false,a⟩],⟨by omega,.sl b' 0 (row++[a,t]).length 1,ev,by simp only[go_sem],.inr ⟨by simp,b',rfl,by omega,q3, ?_⟩, ?_⟩,.inr (.inl ⟨a,rfl,rfl,s2,s2',s2''⟩)⟩
   ·simp only[go_sem,show ¬y=bm by omega];exact(k5 y (by omega)).trans ((u4 y hy).trans (kf2 y (by omega)))
   ·simp only[go_sem,show ¬b'=bm by omega];exact q4
   ·exact w4.next rfl (fun x hx hx'=>by simp only[go_sem,show ¬x=bm by omega];exact k5 x hx') (by omega) (Nat.le_refl _)
 ·refine W.condT (by simp only[go_sem]) ?_;have hfit:=r2 rfl;refine W.dseqB (k:=8) rfl fun K hK=>?_
  refine VB.loadR (b:=n) (j:=0) (off:=0) (cs':=[.ptr bm 0 0]) (v:=.ptr bm 0 0) tabOK rfl rfl rfl rfl th200 rfl ?_ rfl ?_
  ·simp only[rdQ,k0];rfl
  refine VB.run 3 rfl ?_;simp only[go_sem,k0,show(n<n1)=True from eq_true (by omega)];have hw:=fz165 (h:=upd h1 (n1+3) (some (.cells [[.int .i64 t]]))) (n:=n1+8) (m1.next (n':=n1+8) (by omega) (fun y hy=>by rw[upd_app,if_neg (by omega)])) (by omega) (n1+3) [t] (by omega) (by rw[upd_app,if_pos rfl];rfl) (by simp) (by simp);refine VB.callK tabOK follows [(n,.seg 0 0 1)] [] rfl rfl rfl rfl rfl rfl rfl hw (fun r h5 n5 ⟨b',q1,q2,q3,q4,q5⟩=>⟨fun q hq=>?_,fun b hb=>(by cases hb)⟩) fun r h5 n5 ⟨b',q1,q2,q3,q4,q5⟩=>?_
  ·have:q=(n,.seg 0 0 1):=by simpa using hq
   subst this;simp only[q5 n (by omega)]
  subst q1;obtain⟨rv,ev,m2,m3,m4⟩:=m1.cell;have k5:∀y,y<n1→h5 y=h1 y:=fun y hy=>(q5 y (by omega)).trans (by rw[upd_app,if_neg (by omega)])
  refine VB.run 3 rfl ?_;simp only[go_sem,k5 bm (by omega),m2];refine VB.nil ?_;refine hK _ _ _ _ (drawOK_re (ren1_inj n) (by simp only[List.reverse_cons,List.reverse_nil,List.nil_append,List.cons_append,List.map_cons,List.map_nil,Cls.re,ren1_at];kernel_rfl)) ?_;clear hK K;refine W.ret ?_;simp only[go_sem];refine⟨by omega,fun y hy=>?_,row++[t],ed,⟨by omega,.sl b' 0 (row++[t]).length 1,ev,by simp only[go_sem],.inr ⟨by simp,b',rfl,by omega,q3, ?_⟩, ?_⟩,.inl ⟨rfl,rfl,hfit⟩⟩
  ·simp only[go_sem,show ¬y=bm by omega];exact(k5 y (by omega)).trans (kf y (by omega))
  ·simp only[go_sem,show ¬b'=bm by omega];exact q4
  ·exact m4.next rfl (fun x hx hx'=>by simp only[go_sem,show ¬x=bm by omega];exact k5 x hx') (by omega) (Nat.le_refl _)
end Go.Av
