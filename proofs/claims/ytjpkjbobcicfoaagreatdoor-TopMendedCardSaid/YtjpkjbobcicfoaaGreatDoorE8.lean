/-
  Layer 18: what follows from one item. Conditions: none.
-/
import Derived.Test.YtjpkjbobcicfoaaGreatDoorE5
set_option linter.unusedSimpArgs false
set_option linter.unusedVariables false
namespace Go.Av
open Go.Proofs
set_option maxRecDepth 100000
theorem GdL.ok {g:Gr} {L:List (List It)} (h:GdL g L) {i:Nat} {x:It} (hx:x∈bg L i):ItOk g x∧x.2.2≤i:=(h i).2 x hx
theorem ItOk.on {g:Gr} {y:It} {s:Sy} (h:ItOk g y) (hn:nxL g y=some s):ItOk g (onL y):=by
 obtain⟨p,hp,hd⟩:=h;refine⟨p,hp, ?_⟩;simp only[nxL,hp,Option.bind_some] at hn;have:=(List.getElem?_eq_some_iff.1 hn).1;simp only[onL];omega
theorem SmG.rl {g:Gr} (hg:SmG g):∀p∈g.prods,p.right.length<2^40:=fun p hp=>by
 have:=((right_in hg.right).2.2.2.2 p hp).2.1;omega
set_option maxHeartbeats 8000000 in
theorem fz147 {bB bG:Nat} {g:Gr} {w:List Int} {co:Co} {h:Heap} {n:Nat} {L:List (List It)} {sv:Nat→AV} {mb:Nat→Nat} (m:CM bB bG g w co h n L sv mb) (hg:SmG g) (hL:GdL g L) (hw:L.length≤25) (x:It) (p:Pr) (hp:g.prods[x.1]?=some p) (a:Nat) (ha:a<L.length) (hf:x.2.2≤a):
  FH pg Tq 147 [.ptr bB 0 0,.agg (eIt x),.int .i64 a] h n fun r h' n'=>r=.tup []∧∃co' sv' L',CM bB bG g w co' h' n' L' sv' mb∧Bfr co h n co' h' n'∧Up a L L'∧GdL g L'∧∀y∈bg L' x.2.2,nxL g y=some ⟨true,p.left⟩→onL y∈bg L' a:=by
 have zB:∀j,¬bB=n+j:=fun j=>by have:=m.ltB;omega
 have zB':¬bB=n:=by have:=m.ltB;omega
 have lB:∀j,(bB<n+j)=True:=fun j=>by have:=m.ltB;exact eq_true (by omega)
 have mB:=m.hB;refine FH.of (N:=72) (rs:=#[]) Tryz.func147 rfl rfl (of_decide_eq_true rfl) rfl (by decide) ?_;refine W.rseq (k:=1) rfl fun K hK=>?_;simp only[go_sem];refine hK _ _ _ ?_;clear hK K;refine W.dseq (k:=13) rfl fun K hK=>?_;simp only[go_sem,mB,eBd,zB,zB',lB,hp,ePr];refine hK _ _ _ _ (by kernel_rfl) ?_;clear hK K;refine W.rseq (k:=1) rfl fun K hK=>?_;simp only[go_sem];refine hK _ _ _ ?_;clear hK K
 refine W.block (W.while (fun mm t h1 n1=>∃(k:Nat) (co1:Co) (sv1:Nat→AV) (L1:List (List It)),mm=15000 - k∧k≤(bg L1 x.2.2).length∧CM bB bG g w co1 h1 n1 L1 sv1 mb∧Bfr co h n co1 h1 n1∧Up a L L1∧GdL g L1∧(∀y∈(bg L1 x.2.2).take k,nxL g y=some ⟨true,p.left⟩→onL y∈bg L1 a)∧(t 0=.ptr bB 0 0∧t 2=.int .i64 a∧t 4=.ptr n 0 0∧t 6=.ptr (n+12) 0 0)∧t 7=.int .i64 k∧(n+12<n1∧h1 n=some (.cells [eIt x])∧h1 (n+12)=some (.cells [[.bool true,.int .i64 p.left]])∧co1 n=none∧co1 (n+12)=none)) 15000
  ⟨0,co,sv,L,by simp,by simp,m.next (by omega) (fun y hy=>by simp only[go_sem,show ¬y=n by omega,show ∀j,¬y=n+j from fun j=>by omega]),Bfr.loc (by omega) (fun y hy=>by simp only[go_sem,show ¬y=n by omega,show ∀j,¬y=n+j from fun j=>by omega]),Up.refl _ _,hL,by simp,⟨rfl,rfl,rfl,rfl⟩,rfl,by omega,by simp only[go_sem],by simp only[go_sem],m.fr _ (by omega),m.fr _ (by omega)⟩ fun mm t h1 n1 ⟨k,co1,sv1,L1,i1,i2,i3,i4,i5,i6,i7,i8,i9,i10⟩=>?_)
 obtain⟨a0,a2,a4,a6⟩:=i8;obtain⟨o1,o2,o3,o4,o5⟩:=i10;have hL1:L1.length=L.length:=i5.1;obtain⟨c1,c2,c3,c4,c5,⟨es,c6,c7,c8⟩,c9,c10⟩:=id i3;have hfr:=c8 x.2.2 (by omega);have har:=c8 a (by omega);have hlen:=i6.len hg (show x.2.2≤24 by omega);have zB:∀j,¬bB=n1+j:=fun j=>by omega
 have zG:∀j,¬bG=n1+j:=fun j=>by omega
 have lB:∀j,(bB<n1+j)=True:=fun j=>eq_true (by omega)
 have lG:∀j,(bG<n1+j)=True:=fun j=>eq_true (by omega)
 have lB':(bB<n1)=True:=eq_true (by omega);have lG':(bG<n1)=True:=eq_true (by omega);have ln':(n<n1)=True:=eq_true (by omega);have ln2':(n+12<n1)=True:=eq_true (by omega);have ln:∀j,(n<n1+j)=True:=fun j=>eq_true (by omega)
 have ln2:∀j,(n+12<n1+j)=True:=fun j=>eq_true (by omega)
 have zn:∀j,¬n=n1+j:=fun j=>by omega
 have zn2:∀j,¬n+12=n1+j:=fun j=>by omega
 have f1:(x.2.2:Int)<(L1.length:Int):=by omega
 have f2:(a:Int)<(L1.length:Int):=by omega
 have out:k=(bg L1 x.2.2).length→∀(h2:Heap) (n2:Nat),n1≤n2→(∀y,y<n1→h2 y=h1 y)→∃co' sv' L',CM bB bG g w co' h2 n2 L' sv' mb∧Bfr co h n co' h2 n2∧Up a L L'∧GdL g L'∧∀y∈bg L' x.2.2,nxL g y=some ⟨true,p.left⟩→onL y∈bg L' a:=fun e h2 n2 q1 q2=>by
  rw[e,List.take_length] at i7;exact⟨co1,sv1,L1,i3.next q1 q2,i4.trans (Bfr.loc q1 q2),i5,i6,i7⟩
 obtain⟨q1,q2,q3,q4⟩:=c9 x.2.2 _ (bg_some (by omega));refine W.seq ?_;rcases q1 with ⟨w0,w1⟩|⟨b,w1,w2,w3,w4⟩
 ·refine W.dseq (k:=12) rfl fun K hK=>?_;simp only[go_sem,a0,a4,i9,c3,c6,hfr,eBd,o2,zB,zG,lB,lG,lB',lG',ln',ln,f1,w1,show((k:Int)<0)=False from eq_false (by omega)];refine hK _ _ _ _ (by kernel_rfl) ?_;clear hK K;refine W.condF (by simp only[go_sem]) ?_;refine W.exit ?_;simp only[go_sem]
  exact out (by rw[w0] at i2 ⊢;simpa using i2) _ _ (by omega) (fun _ _=>rfl)
 ·by_cases hk:k=(bg L1 x.2.2).length
  ·refine W.dseq (k:=12) rfl fun K hK=>?_;simp only[go_sem,a0,a4,i9,c3,c6,hfr,eBd,o2,zB,zG,lB,lG,lB',lG',ln',ln,f1,w1,show((k:Int)<((bg L1 x.2.2).length:Int))=False from eq_false (by omega)];refine hK _ _ _ _ (by kernel_rfl) ?_;clear hK K;refine W.condF (by simp only[go_sem]) ?_;refine W.exit ?_;simp only[go_sem]
   exact out hk _ _ (by omega) (fun _ _=>rfl)
  ·have hk':k<(bg L1 x.2.2).length:=by omega
   refine W.dseq (k:=12) rfl fun K hK=>?_;simp only[go_sem,a0,a4,i9,c3,c6,hfr,eBd,o2,zB,zG,lB,lG,lB',lG',ln',ln,f1,w1,show((k:Int)<((bg L1 x.2.2).length:Int))=True from eq_true (by omega)];refine hK _ _ _ _ (by kernel_rfl) ?_;clear hK K;refine W.condT (by simp only[go_sem]) ?_;refine W.skip ?_;simp only[go_sem]
   obtain⟨y,hy⟩:=get_some hk';have hym:=List.mem_of_getElem? hy;obtain⟨hyo,hyf⟩:=i6.ok hym;have zb:∀j,¬b=n1+j:=fun j=>by omega
   have lb:∀j,(b<n1+j)=True:=fun j=>eq_true (by omega)
   refine W.seqk fun K hK=>?_
   have nx:∀(t':Fr) (h':Heap) (n':Nat) (co2:Co) (sv2:Nat→AV) (L2:List (List It)),CM bB bG g w co2 h' n' L2 sv2 mb→Bfr co1 h1 n1 co2 h' n'→Up a L1 L2→GdL g L2→(nxL g y=some ⟨true,p.left⟩→onL y∈bg L2 a)→(t' 0=.ptr bB 0 0∧t' 2=.int .i64 a∧t' 4=.ptr n 0 0∧t' 6=.ptr (n+12) 0 0)→t' 7=.int .i64 k→K t' h' n':=by
    intro t' h' n' co2 sv2 L2 e1 e2 e3 e4 e5 e6 e7;refine hK _ _ _ ?_;clear hK K;refine W.region (k:=3) rfl ?_;simp only[go_sem,e7];obtain⟨v1,v2,v3⟩:=e2
    have hk2:(bg L2 x.2.2)[k]?=some y∧(bg L1 x.2.2).length≤(bg L2 x.2.2).length∧(bg L2 x.2.2).take k=(bg L1 x.2.2).take k:=by
     obtain⟨_,u2,s,u3⟩:=e3;by_cases e:x.2.2=a
     ·rw[e] at hy hk' ⊢;rw[u3];exact⟨by rw[List.getElem?_append_left hk'];exact hy,by simp,by rw[List.take_append_of_le_length (by omega)]⟩
     ·rw[u2 _ e];exact⟨hy,Nat.le_refl _,rfl⟩
    refine⟨15000 - (k+1),by omega,k+1,co2,sv2,L2,rfl,by omega,e1.next (by omega) (fun _ _=>rfl),i4.trans ((show Bfr co1 h1 n1 co2 h' n' from⟨v1,v2,v3⟩).trans (Bfr.loc (by omega) (fun _ _=>rfl))),i5.trans e3,e4,fun z hz hzn=>?_,e6, ?_,by omega,(v3 _ (by omega) o4).trans o2,(v3 _ (by omega) o5).trans o3,(v2 _ (by omega)).trans o4,(v2 _ (by omega)).trans o5⟩
    ·rw[List.take_add_one,hk2.1,hk2.2.2] at hz;simp at hz;rcases hz with hz|rfl
     ·exact e3.mem (i7 z hz hzn)
     ·exact e5 hzn
    ·rw[wrap64 (by omega) (by omega)];rfl
   clear hK;refine W.block ?_;have hyk:((bg L1 x.2.2).map eIt)[k]?=some (eIt y):=by rw[List.getElem?_map,hy];rfl
   refine W.dseq (k:=14) rfl fun K hK=>?_;simp only[go_sem,a0,a4,i9,c3,c6,hfr,eBd,o2,w4,zB,zG,lB,lG,lB',lG',ln',ln,zn,f1,w1,zb,lb,hyk,hk',show((k:Int)<((bg L1 x.2.2).length:Int))=True from eq_true (by omega)];refine hK _ _ _ _ (by kernel_rfl) ?_;clear hK K
   have h146:=fz146 g y hyo hg.rl
   cases hny:nxL g y with
   |none=>
    rw[hny] at h146;refine W.dseq (k:=12) rfl fun K hK=>?_;simp only[go_sem,a0,c3,eBd,zB,lB];refine VCall.frz 6 h146 rfl ?_;simp only[go_sem,eNx,Option.isSome];refine hK _ _ _ _ (by kernel_rfl) ?_;clear hK K;refine W.rseq (k:=6) rfl fun K hK=>?_;simp only[go_sem];refine hK _ _ _ ?_;clear hK K;refine W.condF (by simp only[go_sem]) ?_;refine W.skip ?_;simp only[go_sem]
    exact nx _ _ _ co1 sv1 L1 (i3.next (by omega) (fun z hz=>by simp only[go_sem,show ∀j,¬z=n1+j from fun j=>by omega])) (Bfr.loc (by omega) (fun z hz=>by simp only[go_sem,show ∀j,¬z=n1+j from fun j=>by omega])) (Up.refl _ _) i6 (fun e=>by rw[hny] at e;cases e) ⟨a0,a2,a4,a6⟩ i9
   |some s=>
    rw[hny] at h146;refine W.dseq (k:=12) rfl fun K hK=>?_;simp only[go_sem,a0,c3,eBd,zB,lB];refine VCall.frz 6 h146 rfl ?_;simp only[go_sem,eNx,eSy,Option.isSome];refine hK _ _ _ _ (by kernel_rfl) ?_;clear hK K
    by_cases hs:s=⟨true,p.left⟩
    ·have hs1:s.non=true:=by rw[hs]
     have hs2:s.n=p.left:=by rw[hs]
     refine W.rseq (k:=6) rfl fun K hK=>?_;simp only[go_sem,a6,o3,zn2,hs1,hs2];refine hK _ _ _ ?_;clear hK K;refine W.condT (by simp only[go_sem]) ?_;refine W.draw (k:=9) rfl ?_;simp only[go_sem,a0,a2,c3,eBd,zB,lB,f2];refine VCall.frz 6 (fz149 y (by have:=(hyo.lt hg).2;omega)) rfl ?_;simp only[go_sem]
     refine VCall.heap (fz145' (i3.next (by omega) (fun z hz=>by simp only[go_sem,show ∀j,¬z=n1+j from fun j=>by omega])) hg i6 (by omega) a (by omega) (onL y)) fun r h2 n2 ⟨c0,co2,sv2,d1,d2⟩=>?_
     simp only[go_sem];refine⟨by kernel_rfl, ?_⟩;obtain⟨u1,u2,u3,u4⟩:=addL_bg (L:=L1) (a:=a) (x:=onL y) (by omega);exact nx _ _ _ co2 sv2 _ d1 ((Bfr.loc (by omega) (fun z hz=>by simp only[go_sem,show ∀j,¬z=n1+j from fun j=>by omega])).trans d2) u1 (i6.add (by omega) (hyo.on hny) (by simp only[onL];omega)) (fun _=>u2) ⟨a0,a2,a4,a6⟩ i9
    ·skip
     refine W.rseq (k:=6) rfl fun K hK=>?_;simp only[go_sem,a6,o3,zn2];refine hK _ _ _ ?_;clear hK K
     refine W.cond rfl (fun hc=>?_) fun hc=>?_
     ·exfalso;obtain⟨s1,s2⟩:=s;simp at hc;exact hs (by rw[hc.1,hc.2])
     ·refine W.skip ?_;simp only[go_sem];exact nx _ _ _ co1 sv1 L1 (i3.next (by omega) (fun z hz=>by simp only[go_sem,show ∀j,¬z=n1+j from fun j=>by omega])) (Bfr.loc (by omega) (fun z hz=>by simp only[go_sem,show ∀j,¬z=n1+j from fun j=>by omega])) (Up.refl _ _) i6 (fun e=>absurd (Option.some.inj (hny.symm.trans e)) hs) ⟨a0,a2,a4,a6⟩ i9
end Go.Av
namespace Go.Av
open Go.Proofs
set_option maxRecDepth 100000
def WholeAt (g:Gr) (non:Int) (a:Nat) (y:It):Prop:=nxL g y=none∧y.2.2=a∧∃p,g.prods[y.1]?=some p∧p.left=non
set_option maxHeartbeats 8000000 in
theorem fz148 {bB bG:Nat} {g:Gr} {w:List Int} {co:Co} {h:Heap} {n:Nat} {L:List (List It)} {sv:Nat→AV} {mb:Nat→Nat} (m:CM bB bG g w co h n L sv mb) (hg:SmG g) (hL:GdL g L) (hw:L.length≤25) (x:It) (hxo:ItOk g x) (non:Int) (hxn:nxL g x=some ⟨true,non⟩) (a:Nat) (ha:a<L.length) (hf:x.2.2≤a):
  FH pg Tq 148 [.ptr bB 0 0,.agg (eIt x),.int .i64 non,.int .i64 a] h n fun r h' n'=>r=.tup []∧∃co' sv' L',CM bB bG g w co' h' n' L' sv' mb∧Bfr co h n co' h' n'∧Up a L L'∧GdL g L'∧((∃y∈bg L a,WholeAt g non a y)→onL x∈bg L' a):=by
 have zB:∀j,¬bB=n+j:=fun j=>by have:=m.ltB;omega
 have zB':¬bB=n:=by have:=m.ltB;omega
 have zG:∀j,¬bG=n+j:=fun j=>by have:=m.ltG;omega
 have zG':¬bG=n:=by have:=m.ltG;omega
 obtain⟨m1,m2,mB,m4,m5,⟨es,m6,m7,m8⟩,m9,m10⟩:=id m;have har:=m8 a ha;have hlen:=hL.len hg (show a≤24 by omega);obtain⟨q1,q2,q3,q4⟩:=m9 a _ (bg_some ha);have f2:(a:Int)<(L.length:Int):=by omega
 refine FH.of (N:=66) (rs:=#[]) Tryz.func148 rfl rfl (of_decide_eq_true rfl) rfl (by decide) ?_;refine W.rseq (k:=1) rfl fun K hK=>?_;simp only[go_sem];refine hK _ _ _ ?_;clear hK K;refine W.rseq (k:=10) rfl fun K hK=>?_
 have st:∀(t':Fr) (n':Nat) (v:AV),n+1≤n'→SlC eIt 3 (3+2*a) co h n v (bg L a)→t' 0=.ptr bB 0 0→t' 2=.int .i64 non→t' 3=.int .i64 a→t' 5=.ptr n 0 0→t' 19=v→t' 20=.int .i64 (bg L a).length→t' 21=.int .i64 0→K t' (upd h n (some (.cells [eIt x]))) n':=by
  intro t' n' v hn' hv s0 s2 s3 s5 s19 s20 s21;refine hK _ _ _ ?_;clear hK K
  refine W.block (W.while (fun mm t h1 n1=>∃(k:Nat),mm=(bg L a).length - k∧k≤(bg L a).length∧n+1≤n1∧(∀y,y<n→h1 y=h y)∧h1 n=some (.cells [eIt x])∧(∀y∈(bg L a).take k,¬WholeAt g non a y)∧(t 0=.ptr bB 0 0∧t 2=.int .i64 non∧t 3=.int .i64 a∧t 5=.ptr n 0 0∧t 19=v∧t 20=.int .i64 (bg L a).length)∧t 21=.int .i64 k) (bg L a).length
   ⟨0,by simp,by simp,hn',fun y hy=>by simp only[go_sem,show ¬y=n by omega],by simp only[go_sem],by simp,⟨s0,s2,s3,s5,s19,s20⟩,s21⟩ fun mm t h1 n1 ⟨k,i1,i2,i3,i4,i5,i6,i7,i8⟩=>?_)
  obtain⟨a0,a2,a3,a5,a19,a20⟩:=i7;have zB:∀j,¬bB=n1+j:=fun j=>by omega
  have zG:∀j,¬bG=n1+j:=fun j=>by omega
  have lB:∀j,(bB<n1+j)=True:=fun j=>eq_true (by omega)
  have lG:∀j,(bG<n1+j)=True:=fun j=>eq_true (by omega)
  have zn:∀j,¬n=n1+j:=fun j=>by omega
  have ln:∀j,(n<n1+j)=True:=fun j=>eq_true (by omega)
  have b3:h1 bB=some (.cells [eBd g w bG L.length]):=(i4 _ m1).trans mB;have b6:h1 bG=some (.cells es):=(i4 _ m4).trans m6;refine W.rseq (k:=1) rfl fun K hK=>?_;simp only[go_sem,a20,i8];refine hK _ _ _ ?_;clear hK K;refine W.seq ?_
  refine W.cond rfl (fun hc=>?_) fun hc=>?_
  ·refine W.skip ?_;simp only[go_sem];have hk:k<(bg L a).length:=by simp at hc;omega
   obtain⟨y,hy⟩:=get_some hk;have hym:=List.mem_of_getElem? hy;obtain⟨hyo,hyf⟩:=hL.ok hym;obtain⟨b,w1,w2,w3,w4⟩:=hv.resolve_left (fun q=>by rw[q.1] at hk;simp at hk);have zb:∀j,¬b=n1+j:=fun j=>by omega
   have lb:∀j,(b<n1+j)=True:=fun j=>eq_true (by omega)
   have b4:h1 b=some (.cells ((bg L a).map eIt)):=(i4 _ w2).trans w4;have hyk:((bg L a).map eIt)[k]?=some (eIt y):=by rw[List.getElem?_map,hy];rfl
   have h146:=fz146 g y hyo hg.rl;refine W.seqk fun K hK=>?_
   have nx:∀(t':Fr) (h':Heap) (n':Nat),n+1≤n'→(∀y,y<n→h' y=h y)→h' n=some (.cells [eIt x])→¬WholeAt g non a y→(t' 0=.ptr bB 0 0∧t' 2=.int .i64 non∧t' 3=.int .i64 a∧t' 5=.ptr n 0 0∧t' 19=v∧t' 20=.int .i64 (bg L a).length)→t' 21=.int .i64 k→K t' h' n':=by
    intro t' h' n' e1 e2 e3 e4 e5 e6;refine hK _ _ _ ?_;clear hK K;refine W.region (k:=2) rfl ?_;simp only[go_sem,e6];refine⟨(bg L a).length - (k+1),by omega,k+1,rfl,by omega,by omega,e2,e3,fun z hz=>?_,e5, ?_⟩
    ·rw[List.take_add_one,hy] at hz;simp at hz;rcases hz with hz|rfl
     ·exact i6 z hz
     ·exact e4
    ·rw[wrap64 (by omega) (by omega)];rfl
   clear hK;refine W.block ?_;refine W.rseq (k:=4) rfl fun K hK=>?_;simp only[go_sem,a19,w1,i8,b4,hyk,zb,lb,show(k:Int)<((bg L a).length:Int) by omega];refine hK _ _ _ ?_;clear hK K
   have fin:∀(t':Fr) (h':Heap) (n':Nat),n+1≤n'→(∀y,y<n→h' y=h y)→h' n=some (.cells [eIt x])→¬WholeAt g non a y→(t' 0=.ptr bB 0 0∧t' 2=.int .i64 non∧t' 3=.int .i64 a∧t' 5=.ptr n 0 0∧t' 19=v∧t' 20=.int .i64 (bg L a).length)→t' 21=.int .i64 k→t' 55=.bool false→True:=fun _ _ _ _ _ _ _ _ _ _=>trivial
   cases hny:nxL g y with
   |some s=>
    rw[hny] at h146;refine W.dseq (k:=12) rfl fun K hK=>?_;simp only[go_sem,a0,b3,eBd,zB,lB];refine VCall.frz 6 h146 rfl ?_;simp only[go_sem,eNx,eSy,Option.isSome];refine hK _ _ _ _ (by kernel_rfl) ?_;clear hK K;refine W.dseq (k:=22) rfl fun K hK=>?_;simp only[go_sem];refine hK _ _ _ _ (by kernel_rfl) ?_;clear hK K;refine W.condF (by simp only[go_sem]) ?_;refine W.skip ?_;simp only[go_sem]
    exact nx _ _ _ (by omega) (fun z hz=>by simp only[go_sem,show ∀j,¬z=n1+j from fun j=>by omega];exact i4 z hz) (by simp only[go_sem,zn,i5]) (fun e=>by rw[e.1] at hny;cases hny) ⟨a0,a2,a3,a5,a19,a20⟩ i8
   |none=>
    rw[hny] at h146;refine W.dseq (k:=12) rfl fun K hK=>?_;simp only[go_sem,a0,b3,eBd,zB,lB];refine VCall.frz 6 h146 rfl ?_;simp only[go_sem,eNx,Option.isSome];refine hK _ _ _ _ (by kernel_rfl) ?_;clear hK K;obtain⟨p,hp,hpd⟩:=hyo
    by_cases hya:y.2.2=a
    ·by_cases hpl:p.left=non
     ·refine W.dseq (k:=22) rfl fun K hK=>?_;simp only[go_sem,a0,a2,a3,b3,eBd,zB,lB,hp,ePr,hpl,show((y.2.2:Int)=(a:Int))=True from eq_true (by omega)];refine hK _ _ _ _ (by kernel_rfl) ?_;clear hK K;refine W.condT (by simp only[go_sem]) ?_;refine W.dseq (k:=9) rfl fun K hK=>?_;simp only[go_sem,a0,a3,a5,b3,i5,eBd,zB,lB,zn,ln,f2];refine VCall.frz 6 (fz149 x (by have:=(hxo.lt hg).2;omega)) rfl ?_;simp only[go_sem]
      refine VCall.heap (fz145' (m.next (by omega) (fun z hz=>by simp only[go_sem,show ∀j,¬z=n1+j from fun j=>by omega];exact i4 z hz)) hg hL (by omega) a (by omega) (onL x)) fun r h2 n2 ⟨c0,co2,sv2,d1,d2⟩=>?_
      simp only[go_sem];refine hK _ _ _ _ (by kernel_rfl) ?_;clear hK K;refine W.ret ?_;simp only[go_sem];obtain⟨u1,u2,u3,u4⟩:=addL_bg (L:=L) (a:=a) (x:=onL x) (by omega);exact⟨co2,sv2,_,d1,(Bfr.loc (by omega) (fun z hz=>by simp only[go_sem,show ∀j,¬z=n1+j from fun j=>by omega];exact i4 z hz)).trans d2,u1,hL.add (by omega) (hxo.on hxn) (by simp only[onL];omega),fun _=>u2⟩
     ·refine W.dseq (k:=22) rfl fun K hK=>?_;simp only[go_sem,a0,a2,a3,b3,eBd,zB,lB,hp,ePr,hpl,show((y.2.2:Int)=(a:Int))=True from eq_true (by omega)];refine hK _ _ _ _ (by kernel_rfl) ?_;clear hK K;refine W.condF (by simp only[go_sem]) ?_;refine W.skip ?_;simp only[go_sem]
      exact nx _ _ _ (by omega) (fun z hz=>by simp only[go_sem,show ∀j,¬z=n1+j from fun j=>by omega];exact i4 z hz) (by simp only[go_sem,zn,i5]) (fun⟨_,_,p',e1,e2⟩=>by rw[hp] at e1;cases e1;exact hpl e2) ⟨a0,a2,a3,a5,a19,a20⟩ i8
    ·refine W.dseq (k:=22) rfl fun K hK=>?_;simp only[go_sem,a0,a2,a3,show((y.2.2:Int)=(a:Int))=False from eq_false (by omega)];refine hK _ _ _ _ (by kernel_rfl) ?_;clear hK K;refine W.condF (by simp only[go_sem]) ?_;refine W.skip ?_;simp only[go_sem]
     exact nx _ _ _ (by omega) (fun z hz=>by simp only[go_sem,show ∀j,¬z=n1+j from fun j=>by omega];exact i4 z hz) (by simp only[go_sem,zn,i5]) (fun e=>hya e.2.1) ⟨a0,a2,a3,a5,a19,a20⟩ i8
  ·refine W.exit ?_;simp only[go_sem];have hk:(bg L a).length≤k:=by simp at hc;omega
   rw[List.take_of_length_le hk] at i6;exact⟨co,sv,L,m.next (by omega) i4,Bfr.loc (by omega) i4,Up.refl _ _,hL,fun⟨y,q1,q2⟩=>absurd q2 (i6 y q1)⟩
 rcases q1 with ⟨w0,w1⟩|⟨b,w1,w2,w3,w4⟩
 ·simp only[go_sem,mB,m6,har,eBd,zB,zB',zG,zG',f2,w1];exact st _ _ _ (by omega) (.inl ⟨w0,rfl⟩) rfl rfl rfl rfl rfl (by simp only[go_sem,w0]) rfl
 ·simp only[go_sem,mB,m6,har,eBd,zB,zB',zG,zG',f2,w1];exact st _ _ _ (by omega) (.inr ⟨b,rfl,w2,w3,w4⟩) rfl rfl rfl rfl rfl rfl rfl
end Go.Av
namespace Go.Av
open Go.Proofs
set_option maxRecDepth 100000
def Up2 (a:Nat) (L L':List (List It)):Prop:=L'.length=L.length∧(∀i,i≠a→i≠a+1→bg L' i=bg L i)∧(∃s,bg L' a=bg L a++s)∧∃s,bg L' (a+1)=bg L (a+1)++s
theorem Up2.refl (a:Nat) (L:List (List It)):Up2 a L L:=⟨rfl,fun _ _ _=>rfl,⟨[],by simp⟩,[],by simp⟩
theorem Up2.trans {a:Nat} {L L' L2:List (List It)} (h:Up2 a L L') (k:Up2 a L' L2):Up2 a L L2:=by
 obtain⟨h1,h2,⟨s,h3⟩,u,h4⟩:=h;obtain⟨k1,k2,⟨s',k3⟩,u',k4⟩:=k;exact⟨k1.trans h1,fun i hi hj=>(k2 i hi hj).trans (h2 i hi hj),⟨s++s',by rw[k3,h3,List.append_assoc]⟩,u++u',by rw[k4,h4,List.append_assoc]⟩
theorem Up.two {a:Nat} {L L':List (List It)} (h:Up a L L'):Up2 a L L':=⟨h.1,fun i hi _=>h.2.1 i hi,h.2.2,[],by rw[h.2.1 _ (by omega)];simp⟩
theorem Up.two' {a:Nat} {L L':List (List It)} (h:Up (a+1) L L'):Up2 a L L':=⟨h.1,fun i _ hi=>h.2.1 i hi,⟨[],by rw[h.2.1 _ (by omega)];simp⟩,h.2.2⟩
theorem Up2.mem {a:Nat} {L L':List (List It)} (h:Up2 a L L') {i:Nat} {x:It} (hx:x∈bg L i):x∈bg L' i:=by
 obtain⟨_,h2,⟨s,h3⟩,u,h4⟩:=h;by_cases e:i=a
 ·subst e;rw[h3];simp[hx]
 ·by_cases e2:i=a+1
  ·subst e2;rw[h4];simp[hx]
  ·rw[h2 i e e2];exact hx
def FolIt (g:Gr) (w:List Int) (a:Nat) (L L':List (List It)) (x:It):Prop:=
 match nxL g x with
 |none=>∀p,g.prods[x.1]?=some p→∀y∈bg L' x.2.2,nxL g y=some ⟨true,p.left⟩→onL y∈bg L' a
 |some ⟨true,n⟩=>(∀(i:Nat) (q:Pr),g.prods[i]?=some q→q.left=n→(i,0,a)∈bg L' a)∧((∃y∈bg L a,WholeAt g n a y)→onL x∈bg L' a)
 |some ⟨false,t⟩=>w[a]?=some t→onL x∈bg L' (a+1)
set_option maxHeartbeats 8000000 in
theorem fz81 {bB bG:Nat} {g:Gr} {w:List Int} {co:Co} {h:Heap} {n:Nat} {L:List (List It)} {sv:Nat→AV} {mb:Nat→Nat} (m:CM bB bG g w co h n L sv mb) (hg:SmG g) (hL:GdL g L) (hM:L.length=w.length+1) (hw:L.length≤25) (x:It) (hxo:ItOk g x) (a:Nat) (ha:a<L.length) (hf:x.2.2≤a):
  FH pg Tq 81 [.ptr bB 0 0,.agg (eIt x),.int .i64 a] h n fun r h' n'=>r=.tup []∧∃co' sv' L',CM bB bG g w co' h' n' L' sv' mb∧Bfr co h n co' h' n'∧Up2 a L L'∧GdL g L'∧FolIt g w a L L' x:=by
 have zB:∀j,¬bB=n+j:=fun j=>by have:=m.ltB;omega
 have zB':¬bB=n:=by have:=m.ltB;omega
 have lB:∀j,(bB<n+j)=True:=fun j=>by have:=m.ltB;exact eq_true (by omega)
 have mB:=m.hB;have h146:=fz146 g x hxo hg.rl;refine FH.of (N:=68) (rs:=#[]) Tryz.func81 rfl rfl (of_decide_eq_true rfl) rfl (by decide) ?_;refine W.rseq (k:=1) rfl fun K hK=>?_;simp only[go_sem];refine hK _ _ _ ?_;clear hK K
 cases hnx:nxL g x with
 |none=>
  rw[hnx] at h146;refine W.dseq (k:=12) rfl fun K hK=>?_;simp only[go_sem,mB,eBd,zB,zB',lB];refine VCall.frz 6 h146 rfl ?_;simp only[go_sem,eNx,Option.isSome];refine hK _ _ _ _ (by kernel_rfl) ?_;clear hK K;refine W.block ?_;refine W.rseq (k:=3) rfl fun K hK=>?_;simp only[go_sem];refine hK _ _ _ ?_;clear hK K;refine W.condT (by simp only[go_sem]) ?_;obtain⟨p,hp,hpd⟩:=hxo;refine W.region (k:=4) rfl ?_;simp only[go_sem]
  refine VCall.heap (fz147 (m.next (by omega) (fun z hz=>by simp only[go_sem,show ¬z=n by omega,show ∀j,¬z=n+j from fun j=>by omega])) hg hL hw x p hp a ha hf) fun r h2 n2 ⟨c0,co2,sv2,L2,d1,d2,d3,d4,d5⟩=>?_
  simp only[go_sem];refine⟨co2,sv2,L2,d1,(Bfr.loc (by omega) (fun z hz=>by simp only[go_sem,show ¬z=n by omega,show ∀j,¬z=n+j from fun j=>by omega])).trans d2,d3.two,d4, ?_⟩;unfold FolIt;rw[hnx];intro p' hp';rw[hp] at hp';cases hp';exact d5
 |some s=>
  obtain⟨b,v⟩:=s;rw[hnx] at h146;refine W.dseq (k:=12) rfl fun K hK=>?_;simp only[go_sem,mB,eBd,zB,zB',lB];refine VCall.frz 6 h146 rfl ?_;simp only[go_sem,eNx,eSy,Option.isSome];refine hK _ _ _ _ (by kernel_rfl) ?_;clear hK K;refine W.block ?_;refine W.rseq (k:=3) rfl fun K hK=>?_;simp only[go_sem];refine hK _ _ _ ?_;clear hK K;refine W.condF (by simp only[go_sem]) ?_;refine W.rseq (k:=3) rfl fun K hK=>?_;simp only[go_sem];refine hK _ _ _ ?_;clear hK K
  cases b with
  |true=>
   refine W.condT (by simp only[go_sem]) ?_;refine W.rseq (k:=5) rfl fun K hK=>?_;simp only[go_sem]
   refine VCall.heap (fz80 (m.next (by omega) (fun z hz=>by simp only[go_sem,show ¬z=n by omega,show ∀j,¬z=n+j from fun j=>by omega])) hg hL hw v a ha) fun r h2 n2 ⟨c0,co2,sv2,L2,d1,d2,d3,d4,d5⟩=>?_
   simp only[go_sem];refine hK _ _ _ ?_;clear hK K;obtain⟨v1,v2,v3⟩:=d2;have hnx2:h2 n=some (.cells [eIt x]):=(v3 n (by omega) (m.fr _ (by omega))).trans (by simp only[go_sem]);have hny2:h2 (n+10)=some (.cells [[.bool true,.int .i64 v]]):=(v3 _ (by omega) (m.fr _ (by omega))).trans (by simp only[go_sem]);have hL2:L2.length=L.length:=d3.1;refine W.region (k:=6) rfl ?_;simp only[go_sem,hnx2,hny2];refine VCall.heap (fz148 (d1.next (by omega) (fun _ _=>rfl)) hg d4 (by omega) x hxo v hnx a (by omega) hf) fun r h3 n3 ⟨c0',co3,sv3,L3,e1,e2,e3,e4,e5⟩=>?_
   simp only[go_sem];refine⟨co3,sv3,L3,e1,(Bfr.loc (n':=n+24) (by omega) (fun z hz=>by simp only[go_sem,show ¬z=n by omega,show ∀j,¬z=n+j from fun j=>by omega])).trans ((show Bfr co _ _ co2 h2 n2 from⟨v1,v2,v3⟩).trans ((Bfr.loc (by omega) (fun _ _=>rfl)).trans e2)),d3.two.trans e3.two,e4, ?_⟩;unfold FolIt;rw[hnx];exact⟨fun i q q1 q2=>e3.mem (d5 i q q1 q2),fun⟨y,q1,q2⟩=>e5 ⟨y,d3.mem q1,q2⟩⟩
  |false=>
   refine W.condF (by simp only[go_sem]) ?_
   have fin:(¬w[a]?=some v)→∀(h2:Heap) (n2:Nat),n≤n2→(∀z,z<n→h2 z=h z)→∃co' sv' L',CM bB bG g w co' h2 n2 L' sv' mb∧Bfr co h n co' h2 n2∧Up2 a L L'∧GdL g L'∧FolIt g w a L L' x:=fun hne h2 n2 q1 q2=>by
    refine⟨co,sv,L,m.next q1 q2,Bfr.loc q1 q2,Up2.refl _ _,hL, ?_⟩;unfold FolIt;rw[hnx];exact fun q=>absurd q hne
   by_cases haw:a<w.length
   ·obtain⟨t,ht⟩:=get_some haw;have hwt:(w.map eIn)[a]?=some (eIn t):=by rw[List.getElem?_map,ht];rfl
    by_cases htv:t=v
    ·refine W.dseq (k:=20) rfl fun K hK=>?_;simp only[go_sem,mB,eBd,zB,zB',lB,ht,htv,show((a:Int)<(w.length:Int))=True from eq_true (by omega)];refine hK _ _ _ _ (by kernel_rfl) ?_;clear hK K;refine W.condT (by simp only[go_sem]) ?_;refine W.draw (k:=10) rfl ?_;simp only[go_sem,mB,eBd,zB,zB',lB,show(a:Int)+1<(L.length:Int) by omega,wrap64 (show -9223372036854775808≤(a:Int)+1 by omega) (show(a:Int)+1<9223372036854775808 by omega),show((a:Int)+1).toNat=a+1 by omega,show(0:Int)≤(a:Int)+1 by omega];refine VCall.frz 6 (fz149 x (by have:=(hxo.lt hg).2;omega)) rfl ?_;simp only[go_sem]
     refine VCall.heap (fz145' (m.next (by omega) (fun z hz=>by simp only[go_sem,show ¬z=n by omega,show ∀j,¬z=n+j from fun j=>by omega])) hg hL hw (a+1) (by omega) (onL x)) fun r h2 n2 ⟨c0,co2,sv2,d1,d2⟩=>?_
     simp only[go_sem];refine⟨by kernel_rfl, ?_⟩;obtain⟨u1,u2,u3,u4⟩:=addL_bg (L:=L) (a:=a+1) (x:=onL x) (by omega);refine⟨co2,sv2,_,d1,(Bfr.loc (by omega) (fun z hz=>by simp only[go_sem,show ¬z=n by omega,show ∀j,¬z=n+j from fun j=>by omega])).trans d2,u1.two',hL.add (by omega) (hxo.on hnx) (by simp only[onL];omega), ?_⟩;unfold FolIt;rw[hnx];exact fun _=>u2
    ·refine W.dseq (k:=20) rfl fun K hK=>?_;simp only[go_sem,mB,eBd,zB,zB',lB,ht,htv,show((a:Int)<(w.length:Int))=True from eq_true (by omega)];refine hK _ _ _ _ (by kernel_rfl) ?_;clear hK K;refine W.condF (by simp only[go_sem]) ?_;refine W.skip ?_;simp only[go_sem]
     exact fin (fun q=>by rw[ht] at q;exact htv (Option.some.inj q)) _ _ (by omega) (fun z hz=>by simp only[go_sem,show ¬z=n by omega,show ∀j,¬z=n+j from fun j=>by omega])
   ·refine W.dseq (k:=20) rfl fun K hK=>?_;simp only[go_sem,mB,eBd,zB,zB',lB,show((a:Int)<(w.length:Int))=False from eq_false (by omega)];refine hK _ _ _ _ (by kernel_rfl) ?_;clear hK K;refine W.condF (by simp only[go_sem]) ?_;refine W.skip ?_;simp only[go_sem]
    exact fin (fun q=>haw (List.getElem?_eq_some_iff.1 q).1) _ _ (by omega) (fun z hz=>by simp only[go_sem,show ¬z=n by omega,show ∀j,¬z=n+j from fun j=>by omega])
end Go.Av
