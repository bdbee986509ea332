/-
  Layer 18: a word's sets of items. Conditions: none.
-/
import Derived.Shelf.SlSortCmp.NoneTotal
import Derived.Test.YtjpkjbobcicfoaaGreatDoorE8
set_option linter.unusedSimpArgs false
set_option linter.unusedVariables false
namespace Go.Av
open Go.Proofs
set_option maxRecDepth 100000
theorem fn83n (h:Heap) (n:Nat):FH pg Tq 83 [.nils,.fn 84 []] h n fun r h' n'=>r=.tup []∧n'=n∧h'=h:=by
 refine⟨.tup [],h,n,.semF ⟨⟨Nat.le_refl _,fun _ _ h=>h,fun h=>h⟩,⟨_,Tryz.func83,rfl,by decide⟩,fun w S F m vs hfr hr hL hm=>?_⟩,rfl,rfl,rfl⟩;obtain⟨hlen,hL⟩:=hL
 obtain⟨v1,v2,rfl⟩:∃v1 v2,vs=[v1,v2]:=by
  match vs,hlen with
  |[v1,v2],_=>exact⟨v1,v2,rfl⟩
 have hv1:VR w S m .nils v1:=hL 0 _ _ rfl rfl;obtain rfl:v1=.slice none 0 0:=by cases hv1;rfl
 refine(AnyF.slices_SortFunc_none Tryz.sortIt none 0 v2 w).mono fun e w' ⟨he,hw⟩=>?_
 subst hw;exact⟨_,S,m,he,⟨Ext.refl _ _,fun _ h=>h,fun _ h=> .inl h,fun _ _ h=>h,fun _ _=>rfl,hm⟩,.tup [] [] rfl fun i c v h=>by simp at h,hr⟩
def Clo (g:Gr) (w:List Int) (a:Nat) (L:List (List It)):Prop:=
 ∀x∈bg L a,(∀n,nxL g x=some ⟨true,n⟩→∀(i:Nat) (q:Pr),g.prods[i]?=some q→q.left=n→(i,0,a)∈bg L a)∧
  (∀t,nxL g x=some ⟨false,t⟩→w[a]?=some t→onL x∈bg L (a+1))∧
  (nxL g x=none→∀p,g.prods[x.1]?=some p→∀y∈bg L x.2.2,nxL g y=some ⟨true,p.left⟩→onL y∈bg L a)
def Part (g:Gr) (w:List Int) (a i:Nat) (L:List (List It)):Prop:=
 (∀x∈(bg L a).take i,(∀n,nxL g x=some ⟨true,n⟩→∀(i:Nat) (q:Pr),g.prods[i]?=some q→q.left=n→(i,0,a)∈bg L a)∧
   (∀t,nxL g x=some ⟨false,t⟩→w[a]?=some t→onL x∈bg L (a+1))∧
   (nxL g x=none→x.2.2<a→∀p,g.prods[x.1]?=some p→∀y∈bg L x.2.2,nxL g y=some ⟨true,p.left⟩→onL y∈bg L a))∧
 ∀x∈(bg L a).take i,∀y∈(bg L a).take i,nxL g x=none→x.2.2=a→∀p,g.prods[x.1]?=some p→nxL g y=some ⟨true,p.left⟩→onL y∈bg L a
theorem Part.zero (g:Gr) (w:List Int) (a:Nat) (L:List (List It)):Part g w a 0 L:=⟨fun x hx=>by simp at hx,fun x hx=>by simp at hx⟩
theorem Part.done {g:Gr} {w:List Int} {a i:Nat} {L:List (List It)} (h:Part g w a i L) (hi:(bg L a).length≤i) (hL:GdL g L):Clo g w a L:=by
 obtain⟨h1,h2⟩:=h;rw[List.take_of_length_le hi] at h1 h2;intro x hx;obtain⟨a1,a2,a3⟩:=h1 x hx;refine⟨a1,a2,fun hn p hp y hy hyn=>?_⟩;have hle:=(hL.ok hx).2;by_cases e:x.2.2=a
 ·rw[e] at hy;exact h2 x hx y hy hn e p hp hyn
 ·exact a3 hn (by omega) p hp y hy hyn
theorem take_pre {α:Type} {l s:List α} {i:Nat} (h:i≤l.length):(l++s).take i=l.take i:=List.take_append_of_le_length h
theorem Part.step {g:Gr} {w:List Int} {a i:Nat} {L L':List (List It)} {x:It} (h:Part g w a i L) (hx:(bg L a)[i]?=some x) (hL:GdL g L) (u:Up2 a L L') (hf:FolIt g w a L L' x):Part g w a (i+1) L':=by
 obtain⟨h1,h2⟩:=h;have hi:i<(bg L a).length:=(List.getElem?_eq_some_iff.1 hx).1;have hxm:=List.mem_of_getElem? hx
 have htk:(bg L' a).take (i+1)=(bg L a).take i++[x]:=by
  obtain⟨_,_,⟨s,h3⟩,_⟩:=u;rw[h3,take_pre (by omega),List.take_add_one,hx];rfl
 have hsame:∀j,j<a→bg L' j=bg L j:=fun j hj=>u.2.1 j (by omega) (by omega)
 have hin:∀y∈(bg L a).take i,y∈bg L a:=fun y hy=>List.mem_of_mem_take hy
 rw[Part,htk];refine⟨fun z hz=>?_,fun z hz y hy hzn hza p hp hyn=>?_⟩
 ·rcases List.mem_append.1 hz with hz|hz
  ·obtain⟨a1,a2,a3⟩:=h1 z hz;refine⟨fun n q1 j q q2 q3=>u.mem (a1 n q1 j q q2 q3),fun t q1 q2=>u.mem (a2 t q1 q2),fun q1 q2 p q3 y q4 q5=>u.mem (a3 q1 q2 p q3 y ?_ q5)⟩;rw[←hsame _ q2];exact q4
  ·simp at hz;subst hz;unfold FolIt at hf;refine⟨fun n q1=>?_,fun t q1=>?_,fun q1 q2 p q3 y q4 q5=>?_⟩
   ·rw[q1] at hf;exact hf.1
   ·rw[q1] at hf;exact hf
   ·rw[q1] at hf;exact hf p q3 y q4 q5
 ·rcases List.mem_append.1 hz with hz1|hz1
  ·rcases List.mem_append.1 hy with hy1|hy1
   ·exact u.mem (h2 z hz1 y hy1 hzn hza p hp hyn)
   ·have ey:y=x:=by simpa using hy1
    rw[ey] at hyn ⊢;unfold FolIt at hf;rw[hyn] at hf;exact hf.2 ⟨z,hin z hz1,hzn,hza,p,hp,rfl⟩
  ·have ez:z=x:=by simpa using hz1
   subst ez;unfold FolIt at hf;rw[hzn] at hf;refine hf p hp y ?_ hyn;rw[hza];rcases List.mem_append.1 hy with hy|hy
   ·exact u.mem (hin y hy)
   ·simp at hy;subst hy;exact u.mem hxm
theorem Clo.up {g:Gr} {w:List Int} {a b:Nat} {L L':List (List It)} (h:Clo g w b L) (hb:b<a) (hL:GdL g L) (u:Up2 a L L'):Clo g w b L':=by
 have hsame:∀j,j<a→bg L' j=bg L j:=fun j hj=>u.2.1 j (by omega) (by omega)
 intro x hx;rw[hsame b hb] at hx;obtain⟨a1,a2,a3⟩:=h x hx;refine⟨fun n q1 i q q2 q3=>u.mem (a1 n q1 i q q2 q3),fun t q1 q2=>u.mem (a2 t q1 q2),fun q1 p q2 y q3 q4=>u.mem (a3 q1 p q2 y ?_ q4)⟩;rw[hsame _ (by have:=(hL.ok hx).2;omega)] at q3;exact q3
structure ChartC (g:Gr) (w:List Int) (sets:List (List It)):Prop where
 len:sets.length=w.length+1
 ok:∀i,∀x∈bg sets i,ItOk g x∧x.2.2≤i
 bnd:∀i,(bg sets i).length≤15000
 start:∀(i:Nat) (q:Pr),g.prods[i]?=some q→q.left=g.start→(i,0,0)∈bg sets 0
 clo:∀a,a<w.length+1→Clo g w a sets
theorem Clo.iff {g:Gr} {w:List Int} {a:Nat} {L L':List (List It)} (h:Clo g w a L) (e:∀i x,x∈bg L' i↔x∈bg L i):Clo g w a L':=by
 intro x hx;obtain⟨a1,a2,a3⟩:=h x ((e _ _).1 hx);exact⟨fun n q1 i q q2 q3=>(e _ _).2 (a1 n q1 i q q2 q3),fun t q1 q2=>(e _ _).2 (a2 t q1 q2),fun q1 p q2 y q3 q4=>(e _ _).2 (a3 q1 p q2 y ((e _ _).1 q3) q4)⟩
def outS (L:List (List It)) (k:Nat):List (List It):=(List.range k).map fun i=>sortIL (bg L i)
theorem outS_bg {L:List (List It)} {i:Nat}:bg (outS L L.length) i=if i<L.length then sortIL (bg L i) else []:=by
 by_cases h:i<L.length<;>simp[h,bg,outS]
theorem outS_mem {L:List (List It)} (i:Nat) (x:It):x∈bg (outS L L.length) i↔x∈bg L i:=by
 rw[outS_bg];by_cases h:i<L.length
 ·rw[if_pos h];exact(sortIL_perm _).mem_iff
 ·rw[if_neg h];have:bg L i=[]:=by unfold bg;simp[h]
  rw[this]
theorem chart_of {g:Gr} {w:List Int} (hg:SmG g) {L:List (List It)} (hM:L.length=w.length+1) (hw:w.length≤24) (hL:GdL g L) (hs:∀(i:Nat) (q:Pr),g.prods[i]?=some q→q.left=g.start→(i,0,0)∈bg L 0) (hc:∀a,a<w.length+1→Clo g w a L):ChartC g w (outS L L.length):=by
 refine⟨by simp[outS,hM],fun i x hx=>hL.ok ((outS_mem _ _).1 hx),fun i=>?_,fun i q q1 q2=>(outS_mem _ _).2 (hs i q q1 q2),fun a ha=>(hc a ha).iff outS_mem⟩;rw[outS_bg];split
 ·rw[(sortIL_perm _).length_eq];exact hL.len hg (by omega)
 ·simp
theorem CM.nextc {bB bG:Nat} {g:Gr} {w:List Int} {co:Co} {h h':Heap} {n n':Nat} {L:List (List It)} {sv:Nat→AV} {mb:Nat→Nat} (m:CM bB bG g w co h n L sv mb) (hn:n≤n') (hh:∀x,x<n→co x≠none→h' x=h x):CM bB bG g w co h' n' L sv mb:=by
 obtain⟨m1,m2,m3,m4,m5,⟨es,m6,m7,m8⟩,m9,m10,m11⟩:=m;refine⟨by omega,m2,(hh _ m1 (by rw[m2];simp)).trans m3,by omega,m5,⟨es,(hh _ m4 (by rw[m5];simp)).trans m6,m7,m8⟩,fun i l hl=>?_,fun y hy=>m10 y (by omega),m11⟩;obtain⟨q1,q2,q3,q4⟩:=m9 i l hl;exact⟨q1.next ⟨hn,CoExt.rfl' _ _,fun x hx hc=>hh x hx (by rw[hc];simp)⟩,by omega,q3,(hh _ q2 (by rw[q3];simp)).trans q4⟩
def OutC (co:Co) (h:Heap) (n:Nat) (v:AV) (l:List (List It)):Prop:=
 (l=[]∧v=.nils)∨∃(bo:Nat) (es:List (List AV)),v=.sl bo 0 l.length 1∧bo<n∧co bo=none∧h bo=some (.cells es)∧es.length=l.length∧
   ∀(i:Nat) (s:List It),l[i]?=some s→∃c:AV,es[i]?=some [c]∧((s=[]∧c=.nils)∨∃b,c=.sl b 0 s.length 3∧b<n∧co b=none∧b≠bo∧h b=some (.cells (s.map eIt)))
theorem OutC.next {co co':Co} {h h':Heap} {n n':Nat} {v:AV} {l:List (List It)} (o:OutC co h n v l) (f:Bfr co h n co' h' n'):OutC co' h' n' v l:=by
 obtain⟨f1,f2,f3⟩:=f;rcases o with o|⟨bo,es,o1,o2,o3,o4,o5,o6⟩
 ·exact .inl o
 ·refine .inr ⟨bo,es,o1,by omega,(f2 _ o2).trans o3,(f3 _ o2 o3).trans o4,o5,fun i s hs=>?_⟩;obtain⟨c,p1,p2⟩:=o6 i s hs;refine⟨c,p1,p2.imp id fun⟨b,r1,r2,r3,r4,r5⟩=>⟨b,r1,by omega,(f2 _ r2).trans r3,r4,(f3 _ r2 r3).trans r5⟩⟩
theorem OutC.frz {co:Co} {h:Heap} {n:Nat} {v:AV} {l:List (List It)} (o:OutC co h n v l) (fr:Bool):rf fr 8 h v=some (.ro (l.map eSe)):=by
 rcases o with ⟨rfl,rfl⟩|⟨bo,es,rfl,o2,o3,o4,o5,o6⟩
 ·simp[rf]
 ·have he:∀(es:List (List AV)) (l:List (List It)),es.length=l.length→(∀(i:Nat) (s:List It),l[i]?=some s→∃c:AV,es[i]?=some [c]∧((s=[]∧c=.nils)∨∃b,c=.sl b 0 s.length 3∧b<n∧co b=none∧b≠bo∧h b=some (.cells (s.map eIt))))→rfe fr 7 h es=some (l.map eSe):=by
   intro es
   induction es with
   |nil=>intro l hl _;cases l with
    |nil=>rfl
    |cons _ _=>simp at hl
   |cons e es ih=>
    intro l hl hc
    cases l with
    |nil=>simp at hl
    |cons s l=>
     have h1:=ih l (by simpa using hl) fun i s' hs=>by
      obtain⟨c,q⟩:=hc (i+1) s' (by simpa using hs);exact⟨c,by simpa using q⟩
     obtain⟨c,q1,q2⟩:=hc 0 s rfl;simp at q1;subst q1
     have h2:rf fr 5 h c=some (.ro (s.map eIt)):=by
      rcases q2 with ⟨rfl,rfl⟩|⟨b,rfl,_,_,_,q3⟩
      ·simp[rf]
      ·exact rf_sla (d:=4) q3 (by simp) (rfe_map fun x _=>by simp[rfs,rf,eIt])
     have h3:rfs fr 6 h [c]=some (eSe s):=by
      show[c].mapM (rf fr 5 h)=_;rw[List.mapM_cons,h2];rfl
     rw[rfe] at h1 ⊢;rw[List.mapM_cons,h3,h1];rfl
  exact rf_sla (d:=7) o4 o5.symm (he es l o5 o6)
def MapsC (co:Co) (h:Heap) (n:Nat) (M k:Nat) (es:List (List AV)) (mb:Nat→Nat):Prop:=
 es.length=M∧(∀i,i<k→es[i]?=some [.nils,.mp (mb i)]∧mb i<n∧co (mb i)=some (2+2*i)∧h (mb i)=some (.map []))∧∀i,k≤i→i<M→es[i]?=some [.nils,.nilm]
set_option maxHeartbeats 16000000 in
theorem fz30 (g:Gr) (hg:SmG g) (w:List Int) (hf:fitG g w=true):∃sets,PF pg Tq 30 [.agg (eGr g),.ro (w.map eIn)] (.ro (sets.map eSe))∧ChartC g w sets:=by
 have hw:=fit_len hf;have hf':=hf;unfold fitG at hf';rw[Bool.and_eq_true] at hf';obtain⟨hck,hfw⟩:=hf';have hck:=of_decide_eq_true hck
 have fin:FH pg Tq 30 [.agg (eGr g),.ro (w.map eIn)] h0 0 fun r h n=>∃sets,ChartC g w sets∧∃co,OutC co h n r sets:=by
  refine FH.of (N:=107) (rs:=#[.tmp 4]) Tryz.func30 rfl rfl (of_decide_eq_true rfl) rfl (by decide) ?_;refine W.rseq (k:=2) rfl fun K hK=>?_;simp only[go_sem];refine hK _ _ _ ?_;clear hK K;refine W.seq ?_;refine W.rseq (k:=7) rfl fun K hK=>?_;simp only[go_sem];refine VCall.frz 6 (fz26 g hg.small) rfl ?_;try simp only[go_sem];refine hK _ _ _ ?_;clear hK K;refine W.rseq (k:=8) rfl fun K hK=>?_;simp only[go_sem,hck];refine VCall.frz 6 (fz28 g w (by omega)) rfl ?_;simp only[go_sem,hfw];refine hK _ _ _ ?_;clear hK K;refine W.condF (by simp only[go_sem]) ?_;refine W.skip ?_;simp only[go_sem];refine W.dseq (k:=9) rfl fun K hK=>?_
  simp only[go_sem,List.length_map,wrap64 (show -9223372036854775808≤(w.length:Int)+1 by omega) (show(w.length:Int)+1<9223372036854775808 by omega),show(0:Int)≤(w.length:Int)+1 by omega,show((w.length:Int)+1)*32≤140737488355328 by omega,show((w.length:Int)+1).toNat=w.length+1 by omega,show(0:Nat)<32 by omega,show(0:Nat)<2 by omega,show(0:Int)<32 by omega];refine hK _ _ _ _ (by kernel_rfl) ?_;clear hK K;obtain⟨M,hM⟩:∃M,M=w.length+1:=⟨_,rfl⟩;rw[←hM];refine W.seqk fun K hK=>?_
  have nxA:∀(t':Fr) (h':Heap) (n':Nat) (co:Co) (mb:Nat→Nat),CM 24 22 g w co h' n' (List.replicate M []) (fun _=> .nils) mb→h' 0=some (.cells [eGr g])→co 0=none→25<n'→t' 2=.ptr 0 0 0→t' 7=.ptr 24 0 0→K t' h' n':=by
   intro t' h' n' co mb m e1 e2 e3 s2 s7;refine hK _ _ _ ?_;clear hK K
   have hbR:∀i,bg (List.replicate M ([]:List It)) i=[]:=fun i=>by
    unfold bg;by_cases q:i<M<;>simp[q]
   have hL0:GdL g (List.replicate M []):=fun i=>by rw[hbR i];exact⟨by simp,fun x hx=>by simp at hx⟩
   have z0:∀j,¬0=n'+j:=fun j=>by omega
   refine W.rseq (k:=4) rfl fun K hK=>?_;simp only[go_sem,s2,s7,e1,eGr]
   refine VCall.heap (fz80 (m.next (by omega) (fun _ _=>rfl)) hg hL0 (by simp;omega) g.start 0 (by simp;omega)) fun r h1 n1 ⟨c0,co1,sv1,L1,d1,d2,d3,d4,d5⟩=>?_
   simp only[go_sem];refine hK _ _ _ ?_;clear hK K;have hL1:L1.length=M:=by rw[d3.1];simp
   obtain⟨v1,v2,v3⟩:=d2;refine W.rseq (k:=1) rfl fun K hK=>?_;simp only[go_sem];refine hK _ _ _ ?_;clear hK K;refine W.seqk fun K hK=>?_
   have nxB:∀(t2:Fr) (h2:Heap) (n2:Nat) (co2:Co) (sets:List (List It)),ChartC g w sets→OutC co2 h2 n2 (t2 9) sets→K t2 h2 n2:=by
    intro t2 h2 n2 co2 sets q1 q2;refine hK _ _ _ ?_;clear hK K;refine W.rseq (k:=2) rfl fun K hK=>?_;simp only[go_sem];refine hK _ _ _ ?_;clear hK K;refine W.ret ?_;simp only[go_sem]
    exact⟨sets,q1,co2,q2.next (Bfr.loc (by omega) (fun _ _=>rfl))⟩
   clear hK;have zB:∀j,¬24=n1+j:=fun j=>by have:=d1.ltB;omega
   have dB:=d1.hB;refine W.rseq (k:=6) rfl fun K hK=>?_;simp only[go_sem,s7,dB,eBd];refine hK _ _ _ ?_;clear hK K
   refine W.block (W.while (fun mm t h2 n2=>∃(k:Nat) (co2:Co) (sv2:Nat→AV) (L2:List (List It)),mm=M - k∧k≤M∧CM 24 22 g w co2 h2 n2 L2 sv2 mb∧GdL g L2∧L2.length=M∧(∀(i:Nat) (q:Pr),g.prods[i]?=some q→q.left=g.start→(i,0,0)∈bg L2 0)∧(∀a,a<k→Clo g w a L2)∧OutC co2 h2 n2 (t 9) (outS L2 k)∧(t 7=.ptr 24 0 0∧t 59=.int .i64 M)∧t 60=.int .i64 k) M
    ⟨0,co1,sv1,L1,by simp,by simp,d1.next (by omega) (fun _ _=>rfl),d4,hL1,d5,fun a ha=>absurd ha (by omega),.inl ⟨rfl,rfl⟩,⟨s7,by rw[←hL1];rfl⟩,rfl⟩ fun mm t h2 n2 ⟨k,co2,sv2,L2,i1,i2,i3,i4,i5,i6,i7,i8,i9,i10⟩=>?_)
   obtain⟨a7,a59⟩:=i9;refine W.rseq (k:=1) rfl fun K hK=>?_;simp only[go_sem,a59,i10];refine hK _ _ _ ?_;clear hK K;refine W.seq ?_
   refine W.cond rfl (fun hc=>?_) fun hc=>?_
   ·refine W.skip ?_;simp only[go_sem];have hk:k<M:=by simp at hc;omega
    refine W.seqk fun K hK=>?_
    have nxC:∀(t3:Fr) (h3:Heap) (n3:Nat) (co3:Co) (sv3:Nat→AV) (L3:List (List It)),CM 24 22 g w co3 h3 n3 L3 sv3 mb→GdL g L3→L3.length=M→(∀(i:Nat) (q:Pr),g.prods[i]?=some q→q.left=g.start→(i,0,0)∈bg L3 0)→(∀a,a<k+1→Clo g w a L3)→OutC co3 h3 n3 (t3 9) (outS L3 (k+1))→(t3 7=.ptr 24 0 0∧t3 59=.int .i64 M)→t3 60=.int .i64 k→K t3 h3 n3:=by
     intro t3 h3 n3 co3 sv3 L3 e1 e2 e3 e4 e5 e6 e7 e8;refine hK _ _ _ ?_;clear hK K;refine W.region (k:=2) rfl ?_;simp only[go_sem,e8];refine⟨M - (k+1),by omega,k+1,co3,sv3,L3,rfl,by omega,e1.next (by omega) (fun _ _=>rfl),e2,e3,e4,e5,e6.next (Bfr.loc (by omega) (fun _ _=>rfl)),e7, ?_⟩;rw[wrap64 (by omega) (by omega)];rfl
    clear hK;refine W.block ?_;refine W.rseq (k:=2) rfl fun K hK=>?_;simp only[go_sem,i10];refine hK _ _ _ ?_;clear hK K;refine W.seqk fun K hK=>?_
    have nxD:∀(t3:Fr) (h3:Heap) (n3:Nat) (co3:Co) (sv3:Nat→AV) (L3:List (List It)),CM 24 22 g w co3 h3 n3 L3 sv3 mb→GdL g L3→L3.length=M→(∀(i:Nat) (q:Pr),g.prods[i]?=some q→q.left=g.start→(i,0,0)∈bg L3 0)→(∀a,a<k+1→Clo g w a L3)→OutC co3 h3 n3 (t3 9) (outS L3 k)→(t3 7=.ptr 24 0 0∧t3 59=.int .i64 M∧t3 10=.int .i64 k)→t3 60=.int .i64 k→K t3 h3 n3:=by
     intro t3 h3 n3 co3 sv3 L3 e1 e2 e3 e4 e5 e6 e7 e8;refine hK _ _ _ ?_;clear hK K;obtain⟨b7,b59,b10⟩:=e7;obtain⟨c1,c2,c3,c4,c5,⟨es,c6,c7,c8⟩,c9,c10⟩:=id e1;have hkr:=c8 k (by omega);have hlen:=e2.len hg (show k≤24 by omega);have zB:∀j,¬24=n3+j:=fun j=>by omega
     have zG:∀j,¬22=n3+j:=fun j=>by omega
     have lB:∀j,(24<n3+j)=True:=fun j=>eq_true (by omega)
     have lG:∀j,(22<n3+j)=True:=fun j=>eq_true (by omega)
     have f1:(k:Int)<(L3.length:Int):=by omega
     obtain⟨q1,q2,q3,q4⟩:=c9 k _ (bg_some (by omega));refine W.seqk fun K1 hK1=>?_
     have nxE:∀(t4:Fr) (h4:Heap) (n4:Nat) (v:AV),n3≤n4→(∀z,z<n3→h4 z=h3 z)→((bg L3 k=[]∧v=.nils)∨∃b,v=.sl b 0 (bg L3 k).length 3∧n3≤b∧b<n4∧h4 b=some (.cells ((bg L3 k).map eIt)))→t4 12=v→t4 9=t3 9→t4 7=.ptr 24 0 0→t4 59=.int .i64 M→t4 60=.int .i64 k→K1 t4 h4 n4:=by
      intro t4 h4 n4 v r1 r2 r3 s12 s9 s7 s59 s60;refine hK1 _ _ _ ?_;clear hK1;refine W.seqk fun K2 hK2=>?_
      have nxF:∀(t5:Fr) (h5:Heap) (n5:Nat),n4≤n5→(∀z,z<n3→h5 z=h3 z)→((sortIL (bg L3 k)=[]∧v=.nils)∨∃b,v=.sl b 0 (sortIL (bg L3 k)).length 3∧n3≤b∧b<n5∧h5 b=some (.cells ((sortIL (bg L3 k)).map eIt)))→t5 12=v→t5 9=t3 9→t5 7=.ptr 24 0 0→t5 59=.int .i64 M→t5 60=.int .i64 k→K2 t5 h5 n5:=by
       intro t5 h5 n5 p1 p2 p3 u12 u9 u7 u59 u60;refine hK2 _ _ _ ?_;clear hK2;have hsc:outS L3 (k+1)=outS L3 k++[sortIL (bg L3 k)]:=by unfold outS;rw[List.range_succ,List.map_append];rfl
       have hol:(outS L3 k).length=k:=by simp[outS]
       obtain⟨S,hS⟩:∃S,S=sortIL (bg L3 k):=⟨_,rfl⟩;rw[←hS] at p3 hsc
       have hv:∀(h6:Heap) (n6 bo:Nat),n5≤n6→(∀z,z<n5→n3≤z→h6 z=h5 z)→n5≤bo→((S=[]∧v=.nils)∨∃b,v=.sl b 0 S.length 3∧b<n6∧co3 b=none∧b≠bo∧h6 b=some (.cells (S.map eIt))):=fun h6 n6 bo y1 y2 y3=>by
        refine p3.imp id fun⟨b,x1,x2,x3,x4⟩=>⟨b,x1,by omega,c10 b x2,by omega,(y2 b x3 x2).trans x4⟩
       refine W.region (k:=5) rfl ?_;have hkeep:∀z,z<n3→∀j,¬z=n5+j:=fun z hz j=>by omega
       rcases id e6 with ⟨w0,w1⟩|⟨bo,eo,o1,o2,o3,o4,o5,o6⟩
       ·rcases p3 with ⟨p3,rfl⟩|⟨b,rfl,p4,p5,p6⟩
        all_goals
         simp only[go_sem,u9,w1,u12,show(0:Nat)<1 by omega,show(0:Nat)<24 by omega];refine nxC _ _ _ co3 sv3 L3 (e1.next (by omega) (fun z hz=>by simp only[go_sem,show ∀j,¬z=n5+j from fun j=>by omega];exact p2 z hz)) e2 e3 e4 e5 ?_ ⟨u7,u59⟩ u60;rw[hsc,w0,List.nil_append];refine .inr ⟨n5+3,[[_]],rfl,by omega,c10 _ (by omega),by simp only[go_sem];rfl,rfl,fun i s hs=>?_⟩
         cases i with
         |succ i=>simp at hs
         |zero=>
          simp at hs;subst hs;exact⟨_,rfl,hv _ _ _ (by omega) (fun z hz _=>by simp only[go_sem,show ∀j,¬z=n5+j from fun j=>by omega]) (by omega)⟩
       ·have zo:∀j,¬bo=n5+j:=fun j=>by omega
        rw[hol] at o1 o5;have o4':h5 bo=some (.cells eo):=(p2 _ o2).trans o4
        have hfr:∀(ob:AO),∀z,z<n3→co3 z≠none→upd (upd (upd h5 (n5+2) (some ob)) bo none) (n5+3) (some ob) z=h3 z:=fun ob z hz hc=>by
         simp only[go_sem,show ∀j,¬z=n5+j from fun j=>by omega,show ¬z=bo from fun e=>hc (by rw[e];exact o3)];exact p2 z hz
        rcases p3 with ⟨p3,rfl⟩|⟨b,rfl,p4,p5,p6⟩
        all_goals
         simp only[go_sem,u9,o1,o4',o5,zo,u12,Nat.lt_irrefl,and_false,if_false,if_true,show(0:Nat)<1 by omega,show(0:Nat)<24 by omega,show(k+1)*24≤140737488355328 by omega];refine nxC _ _ _ co3 sv3 L3 (e1.nextc (by omega) (fun z hz hc=>by simp only[go_sem,show ∀j,¬z=n5+j from fun j=>by omega,show ¬z=bo from fun e=>hc (by rw[e];exact o3)];exact p2 z hz)) e2 e3 e4 e5 ?_ ⟨u7,u59⟩ u60;rw[hsc];refine .inr ⟨n5+3,eo++[[_]],by rw[List.length_append,hol];rfl,by omega,c10 _ (by omega),by simp only[go_sem];rfl,by rw[List.length_append,List.length_append,o5,hol];rfl,fun i s hs=>?_⟩;by_cases hi:i<k
         ·rw[List.getElem?_append_left (by omega)] at hs ⊢;obtain⟨c,x1,x2⟩:=o6 i s hs;refine⟨c,x1,x2.imp id fun⟨b9,y1,y2,y3,y4,y5⟩=>⟨b9,y1,by omega,y3,by omega, ?_⟩⟩;simp only[go_sem,show ∀j,¬b9=n5+j from fun j=>by omega,y4];exact(p2 _ y2).trans y5
         ·have hi2:i=k:=by
           have:=(List.getElem?_eq_some_iff.1 hs).1;rw[List.length_append,hol] at this;simp at this;omega
          subst hi2;rw[List.getElem?_append_right (by omega),hol,Nat.sub_self] at hs;simp at hs;subst hs;refine⟨_,by rw[List.getElem?_append_right (by omega),o5,Nat.sub_self];rfl,hv _ _ _ (by omega) (fun z hz hz2=>by simp only[go_sem,show ∀j,¬z=n5+j from fun j=>by omega,show ¬z=bo by omega]) (by omega)⟩
      clear hK2;rcases r3 with ⟨w0,rfl⟩|⟨b,rfl,r4,r5,r6⟩
      ·refine W.region (k:=2) rfl ?_;simp only[go_sem,s12];refine VCall.heap (fn83n _ _) fun r h5 n5 ⟨p0,p1,p2⟩=>?_
       subst p1 p2;simp only[go_sem];have hl:=(sortIL_perm (bg L3 k)).length_eq;rw[w0] at hl;exact nxF _ _ _ (by omega) (fun z hz=>r2 z hz) (.inl ⟨by rw[w0];exact List.length_eq_zero_iff.1 hl,rfl⟩) s12 s9 s7 s59 s60
      ·refine W.region (k:=2) rfl ?_;simp only[go_sem,s12];refine VCall.heap (fz83 (bg L3 k) b _ _ r6 (by omega)) fun r h5 n5 ⟨p0,p1,p2⟩=>?_
       subst p1 p2;simp only[go_sem];have hl:=(sortIL_perm (bg L3 k)).length_eq;exact nxF _ _ _ (by omega) (fun z hz=>by simp only[go_sem,show ¬z=b by omega];exact r2 z hz) (.inr ⟨b,by rw[hl],r4,by omega,by simp only[go_sem]⟩) s12 s9 s7 s59 s60
     clear hK1;refine W.region (k:=10) rfl ?_;by_cases hne:bg L3 k=[]
     ·have w1:sv3 k=.nils:=e1.ne k (by rw[bg_some (by omega),hne]);simp only[go_sem,b7,b10,c3,c6,hkr,eBd,zB,zG,lB,lG,f1,w1];refine VCall.heap (fn82 _ _) fun r h4 n4 ⟨p0,p1,p2⟩=>?_
      subst p0;simp only[go_sem];exact nxE _ _ _ .nils (by omega) (fun z hz=>p2 z (by omega)) (.inl ⟨hne,rfl⟩) rfl rfl b7 b59 e8
     ·obtain⟨b,w1,w2,w3,w4⟩:=q1.resolve_left (fun q=>hne q.1);have zb:∀j,¬b=n3+j:=fun j=>by omega
      simp only[go_sem,b7,b10,c3,c6,hkr,eBd,zB,zG,lB,lG,f1,w1];refine VCall.ownq (as':=[.ro ((bg L3 k).map eIt)]) 8 ?_ (fz82 (bg L3 k) (by omega) hne) ?_
      ·exact rfs_cons (rf_sla (d:=6) w4 (by simp) (rfe_map fun x _=>by simp[rfs,rf,eIt])) rfs_nil
      simp only[go_sem,List.length_map];exact nxE _ _ _ (.sl (n3+8) 0 (bg L3 k).length 3) (by omega) (fun z hz=>by simp only[go_sem,show ∀j,¬z=n3+j from fun j=>by omega]) (.inr ⟨n3+8,rfl,by omega,by omega,by simp only[go_sem]⟩) rfl rfl b7 b59 e8
    clear hK;refine W.rseq (k:=1) rfl fun K hK=>?_;simp only[go_sem];refine hK _ _ _ ?_;clear hK K
    refine W.block (W.while (fun mm t h3 n3=>∃(i:Nat) (co3:Co) (sv3:Nat→AV) (L3:List (List It)),mm=15000 - i∧i≤(bg L3 k).length∧CM 24 22 g w co3 h3 n3 L3 sv3 mb∧GdL g L3∧L3.length=M∧(∀(i:Nat) (q:Pr),g.prods[i]?=some q→q.left=g.start→(i,0,0)∈bg L3 0)∧(∀a,a<k→Clo g w a L3)∧Part g w k i L3∧OutC co3 h3 n3 (t 9) (outS L3 k)∧(t 7=.ptr 24 0 0∧t 59=.int .i64 M∧t 10=.int .i64 k∧t 60=.int .i64 k)∧t 11=.int .i64 i) 15000
     ⟨0,co2,sv2,L2,by simp,by simp,i3.next (by omega) (fun _ _=>rfl),i4,i5,i6,i7,Part.zero _ _ _ _,i8.next (Bfr.loc (by omega) (fun _ _=>rfl)),⟨a7,a59,rfl,i10⟩,rfl⟩ fun mm t h3 n3 ⟨i,co3,sv3,L3,j1,j2,j3,j4,j5,j6,j7,j8,j9,j10,j11⟩=>?_)
    obtain⟨b7,b59,b10,b60⟩:=j10;obtain⟨c1,c2,c3,c4,c5,⟨es,c6,c7,c8⟩,c9,c10⟩:=id j3;have hkr:=c8 k (by omega);have hlen:=j4.len hg (show k≤24 by omega);have zB:∀j,¬24=n3+j:=fun j=>by omega
    have zG:∀j,¬22=n3+j:=fun j=>by omega
    have lB:∀j,(24<n3+j)=True:=fun j=>eq_true (by omega)
    have lG:∀j,(22<n3+j)=True:=fun j=>eq_true (by omega)
    have f1:(k:Int)<(L3.length:Int):=by omega
    obtain⟨q1,q2,q3,q4⟩:=c9 k _ (bg_some (by omega))
    have out:i=(bg L3 k).length→∀(t4:Fr) (n4:Nat),n3≤n4→t4 9=t 9→t4 7=.ptr 24 0 0→t4 59=.int .i64 M→t4 10=.int .i64 k→t4 60=.int .i64 k→K t4 h3 n4:=fun e t4 n4 q1 r9 r7 r59 r10 r60=>
     nxD _ _ _ co3 sv3 L3 (j3.next q1 (fun _ _=>rfl)) j4 j5 j6 (fun a ha=>by
      by_cases e2:a=k
      ·subst e2;exact j8.done (by omega) j4
      ·exact j7 a (by omega)) (by rw[r9];exact j9.next (Bfr.loc q1 (fun _ _=>rfl))) ⟨r7,r59,r10⟩ r60
    refine W.seq ?_;rcases q1 with ⟨w0,w1⟩|⟨b,w1,w2,w3,w4⟩
    ·refine W.rseq (k:=11) rfl fun K hK=>?_;simp only[go_sem,b7,b10,j11,c3,c6,hkr,eBd,zB,zG,lB,lG,f1,w1,show((i:Int)<0)=False from eq_false (by omega)];refine hK _ _ _ ?_;clear hK K;refine W.condF (by simp only[go_sem]) ?_;refine W.exit ?_;simp only[go_sem]
     exact out (by rw[w0] at j2 ⊢;simpa using j2) _ _ (by omega) rfl b7 b59 b10 b60
    ·by_cases hi:i=(bg L3 k).length
     ·refine W.rseq (k:=11) rfl fun K hK=>?_;simp only[go_sem,b7,b10,j11,c3,c6,hkr,eBd,zB,zG,lB,lG,f1,w1,show((i:Int)<((bg L3 k).length:Int))=False from eq_false (by omega)];refine hK _ _ _ ?_;clear hK K;refine W.condF (by simp only[go_sem]) ?_;refine W.exit ?_;simp only[go_sem]
      exact out hi _ _ (by omega) rfl b7 b59 b10 b60
     ·have hi':i<(bg L3 k).length:=by omega
      refine W.rseq (k:=11) rfl fun K hK=>?_;simp only[go_sem,b7,b10,j11,c3,c6,hkr,eBd,zB,zG,lB,lG,f1,w1,show((i:Int)<((bg L3 k).length:Int))=True from eq_true (by omega)];refine hK _ _ _ ?_;clear hK K;refine W.condT (by simp only[go_sem]) ?_;refine W.skip ?_;simp only[go_sem]
      obtain⟨x,hx⟩:=get_some hi';have hxm:=List.mem_of_getElem? hx;obtain⟨hxo,hxf⟩:=j4.ok hxm;have zb:∀j,¬b=n3+j:=fun j=>by omega
      have lb:∀j,(b<n3+j)=True:=fun j=>eq_true (by omega)
      have hxk:((bg L3 k).map eIt)[i]?=some (eIt x):=by rw[List.getElem?_map,hx];rfl
      refine W.seqk fun K hK=>?_;refine W.block ?_;refine W.region (k:=14) rfl ?_;simp only[go_sem,b7,b10,j11,c3,c6,hkr,eBd,zB,zG,lB,lG,f1,w1,w4,zb,lb,hxk,show(i:Int)<((bg L3 k).length:Int) by omega]
      refine VCall.heap (fz81 (j3.next (by omega) (fun _ _=>rfl)) hg j4 (by omega) (by omega) x hxo k (by omega) hxf) fun r h4 n4 ⟨c0,co4,sv4,L4,d1,d2,d3,d4,d5⟩=>?_
      simp only[go_sem];refine hK _ _ _ ?_;clear hK K;refine W.region (k:=3) rfl ?_;simp only[go_sem,j11]
      have hpre:(bg L3 k).length≤(bg L4 k).length:=by
       obtain⟨_,_,⟨s,h3⟩,_⟩:=d3;rw[h3];simp
      have hout:outS L4 k=outS L3 k:=by
       unfold outS;refine List.map_congr_left fun j hj=>?_
       rw[d3.2.1 j (by simp at hj;omega) (by simp at hj;omega)]
      refine⟨15000 - (i+1),by omega,i+1,co4,sv4,L4,rfl,by omega,d1.next (by omega) (fun _ _=>rfl),d4,d3.1.trans j5,fun i q r1 r2=>d3.mem (j6 i q r1 r2),fun a ha=>(j7 a ha).up ha j4 d3,j8.step hx j4 d3 d5, ?_,⟨b7,b59,b10,b60⟩, ?_⟩
      ·rw[hout];exact j9.next ((Bfr.loc (by omega) (fun _ _=>rfl)).trans (d2.trans (Bfr.loc (by omega) (fun _ _=>rfl))))
      ·rw[wrap64 (by omega) (by omega)];rfl
   ·refine W.exit ?_;simp only[go_sem];have hk:k=M:=by simp at hc;omega
    subst hk;rw[←i5] at i8;exact nxB _ _ _ co2 (outS L2 L2.length) (chart_of hg (by omega) hw i4 i6 (fun a ha=>i7 a (by omega))) (i8.next (Bfr.loc (by omega) (fun _ _=>rfl)))
  clear hK;refine W.rseq (k:=6) rfl fun K hK=>?_;simp only[go_sem,hM,eBd];refine hK _ _ _ ?_;clear hK K
  refine W.block (W.while (fun mm t h2 n2=>∃(k:Nat) (co:Co) (mb:Nat→Nat) (es:List (List AV)),mm=M - k∧k≤M∧co 24=some 0∧co 22=some 1∧co 0=none∧(∀y,n2≤y→co y=none)∧MapsC co h2 n2 M k es mb∧h2 22=some (.cells es)∧h2 24=some (.cells [eBd g w 22 M])∧h2 0=some (.cells [eGr g])∧26≤n2∧(t 7=.ptr 24 0 0∧t 2=.ptr 0 0 0∧t 38=.int .i64 M)∧t 39=.int .i64 k) M
   ⟨0,fun y=>if y=24 then some 0 else if y=22 then some 1 else none,fun _=>0,List.replicate M [.nils,.nilm],by simp,by simp,rfl,rfl,rfl,fun y hy=>by
    show(if y=24 then some 0 else if y=22 then some 1 else none)=none
    exact(if_neg (by omega)).trans (if_neg (by omega)),⟨by simp,fun i hi=>absurd hi (by omega),fun i _ hi=>by simp[hi]⟩,by simp only[go_sem];rw[hM];rfl,by simp only[go_sem];rw[hM];rfl,by simp only[go_sem],by omega,⟨rfl,rfl,by rw[hM];rfl⟩,rfl⟩ fun mm t h2 n2 ⟨k,co,mb,es,i1,i2,i3,i4,i5,i6,i7,i8,i9,i10,i11,i12,i13⟩=>?_)
  obtain⟨a7,a2,a38⟩:=i12;refine W.rseq (k:=1) rfl fun K hK=>?_;simp only[go_sem,a38,i13];refine hK _ _ _ ?_;clear hK K;refine W.seq ?_
  refine W.cond rfl (fun hc=>?_) fun hc=>?_
  ·refine W.skip ?_;simp only[go_sem];have hk:k<M:=by simp at hc;omega
   refine W.seq ?_;refine W.block ?_;refine W.rseq (k:=2) rfl fun K hK=>?_;simp only[go_sem,i13];refine hK _ _ _ ?_;clear hK K;obtain⟨q1,q2,q3⟩:=i7
   have hkr:=q3 k (Nat.le_refl _) hk;have f1:(k:Int)<(M:Int):=by omega
   have zB:∀j,¬24=n2+j:=fun j=>by omega
   have zG:∀j,¬22=n2+j:=fun j=>by omega
   have lB:∀j,(24<n2+j)=True:=fun j=>eq_true (by omega)
   have lG:∀j,(22<n2+j)=True:=fun j=>eq_true (by omega)
   refine W.region (k:=9) rfl ?_;have zn:∀j,¬0=n2+j:=fun j=>by omega
   simp only[go_sem,a7,i9,i8,eBd,hkr,zB,zG,lB,lG,f1,Option.isNone_none];refine W.region (k:=2) rfl ?_;simp only[go_sem,i13];refine⟨M - (k+1),by omega,k+1,setc co (n2+8) (2+2*k),fun i=>if i=k then n2+8 else mb i,es.set k [.nils,.mp (n2+8)],rfl,by omega, ?_, ?_, ?_,fun y hy=>?_,⟨by simp[q1],fun i hi=>?_,fun i h1 h2=>?_⟩,by simp only[go_sem],by simp only[go_sem,show ¬n2=16 by omega,i9,eBd],by simp only[go_sem,zn,i10,show ¬0=22 by omega],by omega,⟨a7,a2,a38⟩, ?_⟩
   ·unfold setc;rw[if_neg (by omega)];exact i3
   ·unfold setc;rw[if_neg (by omega)];exact i4
   ·unfold setc;rw[if_neg (by omega)];exact i5
   ·unfold setc;rw[if_neg (by omega)];exact i6 y (by omega)
   ·by_cases e:i=k
    ·subst e;simp only[if_true];refine⟨by rw[List.getElem?_set_self (by omega)],by omega,by unfold setc;rw[if_pos rfl], ?_⟩;simp only[go_sem,show ¬n2+8=22 by omega]
    ·simp only[if_neg e];obtain⟨p1,p2,p3,p4⟩:=q2 i (by omega);have pc:¬mb i=22:=fun q=>by rw[q,i4] at p3;injection p3;omega
     refine⟨by rw[List.getElem?_set_ne (Ne.symm e)];exact p1,by omega,by unfold setc;rw[if_neg (by omega)];exact p3, ?_⟩;simp only[go_sem,pc,show ∀j,¬mb i=n2+j from fun j=>by omega];exact p4
   ·rw[List.getElem?_set_ne (by omega)];exact q3 i (by omega) h2
   ·rw[wrap64 (by omega) (by omega)];rfl
  ·refine W.exit ?_;simp only[go_sem];have hk:k=M:=by simp at hc;omega
   subst hk;obtain⟨q1,q2,q3⟩:=i7;refine nxA _ _ _ co mb ⟨by omega,i3,by rw[List.length_replicate];exact i9,by omega,i4,⟨es,i8,by rw[List.length_replicate];exact q1,fun i hi=>(q2 i (by simpa using hi)).1⟩,fun i l hl=>?_,fun y hy=>i6 y (by omega),fun i _=>rfl⟩ i10 i5 (by omega) a2 a7;have hi:i<k:=by have:=(List.getElem?_eq_some_iff.1 hl).1;simpa using this
   have hl':l=[]:=by simp[hi] at hl;exact hl
   subst hl';obtain⟨p1,p2,p3,p4⟩:=q2 i hi;exact⟨.inl ⟨rfl,rfl⟩,by omega,p3,p4⟩
 obtain⟨r,h',n',hb,sets,hc,co,ho⟩:=fin;exact⟨sets,⟨r,h',n',hb,8,fun fr=>ho.frz fr⟩,hc⟩
end Go.Av
