/-
  Layer 10, the document's answer: round by round. Conditions: none.
-/
import Derived.Test.YtjpkjbobcicfoaaGreatDoorG1
import Derived.Test.YtjpkjbobcicfoaaGreatDoorCC
set_option linter.unusedSimpArgs false
set_option linter.unusedVariables false
namespace Go.Av
open Go.Proofs
set_option maxRecDepth 100000
def reachS (rank:Int) (i:Nat) (s:List Fc×Bool) (y:Sy):List Fc×Bool:=if y.non=true∧rk s.1 y.n=0 then (s.1.set y.n.toNat (rank+1,(i:Int)),true) else s
def reachP (rank:Int) (s:List Fc×Bool) (x:Pr×Nat):List Fc×Bool:=if rk s.1 x.1.left=rank then x.1.right.foldl (reachS rank x.2) s else s
def reachR (g:Gr) (rank:Int) (l:List Fc):List Fc×Bool:=g.prods.zipIdx.foldl (reachP rank) (l,false)
def reachLoop (g:Gr):Nat→Int→List Fc→List Fc
 |0,_,l=>l
 |f+1,rank,l=>if (reachR g rank l).2 then reachLoop g f (rank+1) (reachR g rank l).1 else (reachR g rank l).1
def reachI (g:Gr):List Fc:=(List.replicate g.nons.toNat (0,0)).set g.start.toNat (1,0)
def reachL (g:Gr):List Fc:=if right g then reachLoop g (g.nons.toNat+1) 1 (reachI g) else []
theorem reachS_len {rank:Int} {i:Nat} {s:List Fc×Bool} {y:Sy}:(reachS rank i s y).1.length=s.1.length:=by
 unfold reachS;split<;>simp
theorem foldS_len {rank:Int} {i:Nat}:∀(l:List Sy) (s:List Fc×Bool),(l.foldl (reachS rank i) s).1.length=s.1.length
 |[],s=>rfl
 |y::l,s=>by rw[List.foldl_cons,foldS_len l,reachS_len]
theorem reachP_len {rank:Int} {s:List Fc×Bool} {x:Pr×Nat}:(reachP rank s x).1.length=s.1.length:=by
 unfold reachP;split
 ·exact foldS_len _ _
 ·rfl
theorem foldP_len {rank:Int}:∀(l:List (Pr×Nat)) (s:List Fc×Bool),(l.foldl (reachP rank) s).1.length=s.1.length
 |[],s=>rfl
 |y::l,s=>by rw[List.foldl_cons,foldP_len l,reachP_len]
theorem reachR_len {g:Gr} {rank:Int} {l:List Fc}:(reachR g rank l).1.length=l.length:=foldP_len _ _
theorem reachI_len {g:Gr}:(reachI g).length=g.nons.toNat:=by simp[reachI]
def Less (s s':List Fc×Bool):Prop:=zeros s'.1≤zeros s.1∧(s.2=false→s'.2=true→zeros s'.1<zeros s.1)
theorem Less.trans {a b c:List Fc×Bool} (h:Less a b) (k:Less b c):Less a c:=by
 refine⟨Nat.le_trans k.1 h.1,fun h1 h2=>?_⟩
 cases hb:b.2 with
 |false=>have:=k.2 hb h2;have:=h.1;omega
 |true=>have:=h.2 h1 hb;have:=k.1;omega
theorem Less.rfl' (s:List Fc×Bool):Less s s:=⟨Nat.le_refl _,fun h1 h2=>by rw[h1] at h2;cases h2⟩
theorem reachS_less {rank:Int} (hr:1≤rank) {i:Nat} {s:List Fc×Bool} {y:Sy} (hy:y.non=true→0≤y.n∧y.n<s.1.length):Less s (reachS rank i s y):=by
 unfold reachS;split
 ·rename_i c
  have:=zeros_set (f:=(rank+1,(i:Int))) (hy c.1).1 (hy c.1).2 c.2 (by simp only;omega);exact⟨by simp only;omega,fun _ _=>this⟩
 ·exact Less.rfl' s
theorem foldS_less {rank:Int} (hr:1≤rank) {i:Nat}:∀(l:List Sy) (s:List Fc×Bool),(∀y∈l,y.non=true→0≤y.n∧y.n<s.1.length)→Less s (l.foldl (reachS rank i) s)
 |[],s,_=>Less.rfl' s
 |y::l,s,h=>(reachS_less hr (h y (by simp))).trans (foldS_less hr l _ fun z hz=>by rw[reachS_len];exact h z (by simp[hz]))
theorem reachP_less {rank:Int} (hr:1≤rank) {s:List Fc×Bool} {x:Pr×Nat} (h:∀y∈x.1.right,y.non=true→0≤y.n∧y.n<s.1.length):Less s (reachP rank s x):=by
 unfold reachP;split
 ·exact foldS_less hr _ s h
 ·exact Less.rfl' s
theorem foldP_less {rank:Int} (hr:1≤rank):∀(l:List (Pr×Nat)) (s:List Fc×Bool),(∀x∈l,∀y∈x.1.right,y.non=true→0≤y.n∧y.n<s.1.length)→Less s (l.foldl (reachP rank) s)
 |[],s,_=>Less.rfl' s
 |x::l,s,h=>(reachP_less hr (h x (by simp))).trans (foldP_less hr l _ fun z hz=>by rw[reachP_len];exact h z (by simp[hz]))
theorem reachR_zeros {g:Gr} {rank:Int} {l:List Fc} (hr:1≤rank) (hl:g.In l) (h:(reachR g rank l).2=true):zeros (reachR g rank l).1<zeros l:=
 (foldP_less hr g.prods.zipIdx (l,false) fun x hx=>(hl x.1 (mem_zipIdx hx)).2).2 rfl h
theorem fz72 (g:Gr) (hg:g.Small):FH pg Tq 72 [.agg (eGr g)] h0 0 fun r h _=>OwnFc (reachL g) r h:=by
 have hg1:g.prods.length<2^60:=hg.1;refine FH.of (N:=70) (rs:=#[.tmp 2]) Tryz.func72 rfl rfl (of_decide_eq_true rfl) rfl (by decide) ?_;refine W.rseq (k:=2) rfl fun K hK=>?_;simp only[go_sem];refine hK _ _ _ ?_;clear hK K
 refine W.scope (WS.code ?_);refine W.seq ?_;refine W.rseq (k:=3) rfl fun K hK=>?_;simp only[go_sem];refine VCall.frz 6 (fz57 g hg) rfl ?_;try simp only[go_sem];refine hK _ _ _ ?_;clear hK K
 cases hr:right g
 ·refine W.condT (by simp only[go_sem]) ?_;refine W.rseq (k:=1) rfl fun K hK=>?_;simp only[go_sem];refine hK _ _ _ ?_;clear hK K;refine W.ret ?_;simp only[go_sem]
  exact .inl ⟨by simp[reachL,hr],.inl rfl⟩
 refine W.condF (by simp only[go_sem]) ?_;refine W.skip ?_;simp only[go_sem];obtain⟨⟨hn1,hn2⟩,_,⟨hs1,hs2⟩,hp60,hright⟩:=right_in hr;refine W.rseq (k:=4) rfl fun K hK=>?_;simp only[go_sem,show(0:Int)≤g.nons by omega,show g.nons*16≤140737488355328 by omega,show(0:Nat)<16 by omega,show(0:Nat)<2 by omega];refine hK _ _ _ ?_;clear hK K
 have hrep:List.replicate g.nons.toNat [AV.int .i64 0,AV.int .i64 0]=(List.replicate g.nons.toNat ((0,0):Fc)).map eFc:=by simp[eFc]
 have hget:(List.replicate g.nons.toNat ((0,0):Fc))[g.start.toNat]?=some (0,0):=by
  rw[List.getElem?_replicate,if_pos (by omega)]
 refine W.rseq (k:=6) rfl fun K hK=>?_;simp only[go_sem,hrep,hget,hs1,show g.start<((g.nons.toNat:Nat):Int) by omega,show g.start.toNat<g.nons.toNat by omega,List.length_map,List.length_replicate];refine hK _ _ _ ?_;clear hK K;refine W.seq ?_
 refine W.label ?_;simp only[go_sem];refine W.seq ?_;refine W.rseq (k:=1) rfl fun K hK=>?_;simp only[go_sem];refine hK _ _ _ ?_;clear hK K
 have hIn0:∀l:List Fc,l.length=g.nons.toNat→g.In l:=fun l hl=>right_In hr (by omega)
 obtain⟨bl,hbl⟩:∃bl,bl=7:=⟨_,rfl⟩
 refine W.block (W.while (fun m t h n=>∃(l:List Fc) (rank:Int),l.length=g.nons.toNat∧1≤rank∧rank+m≤26∧zeros l<m∧reachLoop g m rank l=reachLoop g (g.nons.toNat+1) 1 (reachI g)∧bl<n∧t 1=.ptr 0 0 0∧t 3=.sl bl 0 l.length 2∧t 4=.int .i64 rank∧
   h 0=some (.cells [eGr g])∧h bl=some (.cells (l.map eFc))) (g.nons.toNat+1)
  ⟨reachI g,1,reachI_len,by omega,by omega,Nat.lt_succ_of_le (by unfold zeros;exact Nat.le_trans List.countP_le_length (by rw[reachI_len];exact Nat.le_refl _)),rfl,by omega,rfl,by rw[reachI_len,hbl];rfl,rfl,by simp only[go_sem],by simp only[go_sem,hbl,reachI,List.map_set]⟩ fun m t h n ⟨l,rank,i1,i2,i3,i4,i5,i6,i7,i8,i9,i10,i11⟩=>?_)
 have hIn:g.In l:=hIn0 l i1;refine W.seq (W.block ?_);refine W.rseq (k:=1) rfl fun K hK=>?_;simp only[go_sem];refine hK _ _ _ ?_;clear hK K;refine W.seq ?_;refine W.rseq (k:=4) rfl fun K hK=>?_;simp only[go_sem,i7,i10];refine hK _ _ _ ?_;clear hK K
 refine W.block (W.while (fun m2 t h n=>∃k:Nat,m2=g.prods.length - k∧k≤g.prods.length∧bl<n∧t 1=.ptr 0 0 0∧t 3=.sl bl 0 l.length 2∧t 4=.int .i64 rank∧t 24=.ro (g.prods.map ePr)∧t 25=.int .i64 g.prods.length∧t 26=.int .i64 k∧
   t 5=.bool ((g.prods.zipIdx.take k).foldl (reachP rank) (l,false)).2∧h 0=some (.cells [eGr g])∧h bl=some (.cells (((g.prods.zipIdx.take k).foldl (reachP rank) (l,false)).1.map eFc))) g.prods.length
  ⟨0,by simp,by simp,by omega,i7,i8,i9,rfl,rfl,rfl,rfl,by simp only[go_sem,i10],by simp only[go_sem,i11];rfl⟩ fun m2 t h n ⟨k,j1,j2,j3,j4,j5,j6,j7,j8,j9,j10,j11,j12⟩=>?_)
 refine W.rseq (k:=1) rfl fun K hK=>?_;simp only[go_sem,j8,j9];refine hK _ _ _ ?_;clear hK K;refine W.seq ?_
 refine W.cond rfl (fun hc=>?_) fun hc=>?_
 ·refine W.skip ?_;simp only[go_sem];have hk:k<g.prods.length:=by simp at hc;omega
  obtain⟨p,hp⟩:=get_some hk;have hm:p∈g.prods:=List.mem_of_getElem? hp;obtain⟨⟨hl0,hl1⟩,hin⟩:=hIn p hm;have hz:g.prods.zipIdx[k]?=some (p,k):=by simp[List.getElem?_zipIdx,hp]
  have hfold:(g.prods.zipIdx.take (k+1)).foldl (reachP rank) (l,false)=reachP rank ((g.prods.zipIdx.take k).foldl (reachP rank) (l,false)) (p,k):=by
   rw[List.take_add_one,hz,List.foldl_append];rfl
  have hlen:((g.prods.zipIdx.take k).foldl (reachP rank) (l,false)).1.length=l.length:=foldP_len _ _;generalize hs:(g.prods.zipIdx.take k).foldl (reachP rank) (l,false)=s at*;obtain⟨b,hb⟩:=fc_get hl0 (show p.left<s.1.length by rw[hlen];exact hl1);refine W.seq (W.block ?_);refine W.rseq (k:=6) rfl fun K hK=>?_;simp only[go_sem,j7,j9,hp];refine hK _ _ _ ?_;clear hK K;refine W.seq ?_;refine W.rseq (k:=8) rfl fun K hK=>?_;simp only[go_sem,j5,j6,j12,hl0,hl1,hb,show ∀i,¬(bl=n+i) from fun i=>by omega];refine hK _ _ _ ?_;clear hK K
  refine W.cond rfl (fun hc2=>?_) fun hc2=>?_
  ·refine W.exit ?_;simp only[go_sem];refine W.region (k:=2) rfl ?_;simp only[go_sem,j9]
   have hst:reachP rank s (p,k)=s:=by
    have:¬rk s.1 p.left=rank:=by simpa using hc2
    simp only[reachP,this,if_false]
   rw[hst] at hfold;refine⟨g.prods.length - (k+1),by omega,k+1,rfl,by omega,by omega,j4,j5,j6,j7,j8, ?_, ?_, ?_, ?_⟩
   ·rw[wrap64 (by omega) (by omega)];rfl
   ·rw[hfold];exact j10
   ·simp only[go_sem,show ∀i,¬(0=n+i) from fun i=>by omega,j11]
   ·rw[hfold];simp only[go_sem,show ∀i,¬(bl=n+i) from fun i=>by omega,j12]
  ·refine W.skip ?_;simp only[go_sem];have hc3:rk s.1 p.left=rank:=by simpa using hc2
   have hst:reachP rank s (p,k)=p.right.foldl (reachS rank k) s:=by simp only[reachP,hc3,if_true]
   have hpr:p.right.length<2^60:=hg.2 p hm;rw[hst] at hfold;refine W.rseq (k:=4) rfl fun K hK=>?_;simp only[go_sem];refine hK _ _ _ ?_;clear hK K
   refine W.block (W.while (fun m3 t h n=>∃q:Nat,m3=p.right.length - q∧q≤p.right.length∧bl<n∧t 1=.ptr 0 0 0∧t 3=.sl bl 0 l.length 2∧t 4=.int .i64 rank∧t 24=.ro (g.prods.map ePr)∧t 25=.int .i64 g.prods.length∧t 26=.int .i64 k∧t 6=.int .i64 k∧
     t 40=.ro (p.right.map eSy)∧t 41=.int .i64 p.right.length∧t 42=.int .i64 q∧t 5=.bool ((p.right.take q).foldl (reachS rank k) s).2∧h 0=some (.cells [eGr g])∧h bl=some (.cells (((p.right.take q).foldl (reachS rank k) s).1.map eFc))) p.right.length
    ⟨0,by simp,by simp,by omega,j4,j5,j6,j7,j8,j9,rfl,rfl,rfl,rfl,j10,by simp only[go_sem,show ∀i,¬(0=n+i) from fun i=>by omega,j11],by simp only[go_sem,show ∀i,¬(bl=n+i) from fun i=>by omega,j12];rfl⟩ fun m3 t h n ⟨q,k1,k2,k3,k4,k5,k6,k7,k8,k9,k10,k11,k12,k13,k14,k15,k16⟩=>?_)
   refine W.rseq (k:=1) rfl fun K hK=>?_;simp only[go_sem,k12,k13];refine hK _ _ _ ?_;clear hK K;refine W.seq ?_
   refine W.cond rfl (fun hc4=>?_) fun hc4=>?_
   ·refine W.skip ?_;simp only[go_sem];have hq:q<p.right.length:=by simp at hc4;omega
    obtain⟨y,hy⟩:=get_some hq;have hym:y∈p.right:=List.mem_of_getElem? hy
    have hf2:(p.right.take (q+1)).foldl (reachS rank k) s=reachS rank k ((p.right.take q).foldl (reachS rank k) s) y:=by
     rw[List.take_add_one,hy,List.foldl_append];rfl
    have hlen2:((p.right.take q).foldl (reachS rank k) s).1.length=l.length:=(foldS_len _ _).trans hlen;generalize hs2:(p.right.take q).foldl (reachS rank k) s=s2 at*;refine W.seq (W.block ?_);refine W.rseq (k:=4) rfl fun K hK=>?_;simp only[go_sem,k11,k13,hy];refine hK _ _ _ ?_;clear hK K;refine W.rseq (k:=11) rfl fun K hK=>?_
    have no:∀(t':Fr) (h':Heap) (n':Nat),¬(y.non=true∧rk s2.1 y.n=0)→bl<n'→t' 56=.bool false→t' 1=.ptr 0 0 0→t' 3=.sl bl 0 l.length 2→t' 4=.int .i64 rank→t' 24=.ro (g.prods.map ePr)→t' 25=.int .i64 g.prods.length→t' 26=.int .i64 k→t' 6=.int .i64 k→
      t' 40=.ro (p.right.map eSy)→t' 41=.int .i64 p.right.length→t' 42=.int .i64 q→t' 5=.bool s2.2→h' 0=some (.cells [eGr g])→h' bl=some (.cells (s2.1.map eFc))→K t' h' n':=by
     intro t' h' n' hno y0 y56 y1 y3 y4 y24 y25 y26 y6 y40 y41 y42 y5 yh0 yh7;have hst2:reachS rank k s2 y=s2:=by simp only[reachS,hno,if_false]
     rw[hst2] at hf2;refine hK _ _ _ ?_;clear hK K;refine W.condF (by simp only[go_sem,y56]) ?_;refine W.skip ?_;simp only[go_sem];refine W.region (k:=2) rfl ?_;simp only[go_sem,y42];refine⟨p.right.length - (q+1),by omega,q+1,rfl,by omega,by omega,y1,y3,y4,y24,y25,y26,y6,y40,y41, ?_, ?_,yh0, ?_⟩
     ·rw[wrap64 (by omega) (by omega)];rfl
     ·rw[hf2];exact y5
     ·rw[hf2];exact yh7
    have z0:∀i,¬(0=n+i):=fun i=>by omega
    have z7:∀i,¬(bl=n+i):=fun i=>by omega
    cases hyn:y.non
    ·simp only[go_sem,hyn];exact no _ _ _ (by simp[hyn]) (by omega) rfl k4 k5 k6 k7 k8 k9 k10 k11 k12 k13 k14 (by simp only[go_sem,z0,k15]) (by simp only[go_sem,z7,k16])
    ·have hyb:=hin y hym hyn;obtain⟨b2,hb2⟩:=fc_get hyb.1 (show y.n<s2.1.length by rw[hlen2];exact hyb.2);simp only[go_sem,hyn,k5,hyb.1,hyb.2,z7,k16,hb2];by_cases c1:rk s2.1 y.n=0
     ·have hst2:reachS rank k s2 y=(s2.1.set y.n.toNat (rank+1,(k:Int)),true):=by simp only[reachS,hyn,c1,and_self,if_true]
      rw[hst2] at hf2;have hwr:IntKind.wrap .i64 (rank+1)=rank+1:=wrap64 (by omega) (by omega);clear no;refine hK _ _ _ ?_;clear hK K;refine W.condT (by simp only[go_sem,c1]) ?_;refine W.rseq (k:=9) rfl fun K hK=>?_;simp only[go_sem,k5,k6,k10,hwr,hyb.1,hyb.2,z7,k16,hb2];refine hK _ _ _ ?_;clear hK K;refine W.region (k:=1) rfl ?_;simp only[go_sem];refine W.region (k:=2) rfl ?_;simp only[go_sem,k13]
      refine⟨p.right.length - (q+1),by omega,q+1,rfl,by omega,by omega,k4,k5,k6,k7,k8,k9,k10,k11,k12, ?_, ?_, ?_, ?_⟩
      ·rw[wrap64 (by omega) (by omega)];rfl
      ·rw[hf2]
      ·simp only[go_sem,z0,k15,show ¬0=bl by omega]
      ·simp only[go_sem,hf2,List.map_set]
     ·exact no _ _ _ (by simp[c1]) (by omega) (by simp only[go_sem,c1]) k4 k5 k6 k7 k8 k9 k10 k11 k12 k13 k14 (by simp only[go_sem,z0,k15]) (by simp only[go_sem,z7,k16])
   ·refine W.exit ?_;simp only[go_sem];have hq:¬q<p.right.length:=by simp at hc4;omega
    rw[List.take_of_length_le (by omega)] at k14 k16;refine W.region (k:=2) rfl ?_;simp only[go_sem,k9];refine⟨g.prods.length - (k+1),by omega,k+1,rfl,by omega,by omega,k4,k5,k6,k7,k8, ?_, ?_,k15, ?_⟩
    ·rw[wrap64 (by omega) (by omega)];rfl
    ·rw[hfold];exact k14
    ·rw[hfold];exact k16
 ·refine W.exit ?_;simp only[go_sem];have hk:¬k<g.prods.length:=by simp at hc;omega
  have e:(g.prods.zipIdx.take k).foldl (reachP rank) (l,false)=reachR g rank l:=by rw[List.take_of_length_le (by simp;omega)];rfl
  rw[e] at j10 j12;obtain⟨m',rfl⟩:∃m',m=m'+1:=⟨m - 1,by omega⟩;rw[reachLoop] at i5;refine W.rseq (k:=2) rfl fun K hK=>?_;simp only[go_sem,j10];refine hK _ _ _ ?_;clear hK K
  cases hmo:(reachR g rank l).2
  ·refine W.condT (by simp only[go_sem]) ?_;refine W.exit ?_;simp only[go_sem];refine W.rseq (k:=2) rfl fun K hK=>?_;simp only[go_sem,j5];refine hK _ _ _ ?_;clear hK K;refine W.ret ?_;simp only[go_sem]
   rw[hmo,if_neg (by simp)] at i5;have:reachL g=(reachR g rank l).1:=by rw[reachL,hr,if_pos rfl,←i5]
   rw[this];exact .inr ⟨bl,by rw[reachR_len],j12⟩
  ·refine W.condF (by simp only[go_sem]) ?_;refine W.skip ?_;simp only[go_sem];rw[hmo,if_pos rfl] at i5;have hz:=reachR_zeros i2 hIn hmo;refine W.region (k:=3) rfl ?_;simp only[go_sem,j6];refine⟨m',by omega,(reachR g rank l).1,rank+1,by rw[reachR_len];exact i1,by omega,by omega,by omega,i5,by omega,j4, ?_, ?_,j11,j12⟩
   ·rw[reachR_len];exact j5
   ·rw[wrap64 (by omega) (by omega)]
end Go.Av
namespace Go.Av
open Go.Proofs
set_option maxRecDepth 100000
def refQ (rank:Int) (l:List Fc) (non:Nat) (p:Pr):Bool:=stands p non && decide (rk l p.left=rank - 1)
def refN (g:Gr) (rank:Int) (l:List Fc) (non:Nat):List Fc:=
 if rk l non=0 then match g.prods.findIdx? (refQ rank l non) with
  |some q=>l.set non (rank,(q:Int))
  |none=>l
 else l
def refR (g:Gr) (rank:Int) (l:List Fc):List Fc:=(List.range l.length).foldl (refN g rank) l
def refLoop (g:Gr):Nat→Int→List Fc→List Fc
 |0,_,l=>l
 |f+1,rank,l=>refLoop g f (rank+1) (refR g rank l)
def reachRef (g:Gr):List Fc:=if right g then refLoop g (g.nons.toNat - 1) 2 (reachI g) else []
theorem refN_len {g:Gr} {rank:Int} {l:List Fc} {non:Nat}:(refN g rank l non).length=l.length:=by
 unfold refN;split
 ·split<;>simp
 ·rfl
theorem foldN_len {g:Gr} {rank:Int}:∀(xs:List Nat) (l:List Fc),(xs.foldl (refN g rank) l).length=l.length
 |[],l=>rfl
 |x::xs,l=>by rw[List.foldl_cons,foldN_len xs,refN_len]
theorem refR_len {g:Gr} {rank:Int} {l:List Fc}:(refR g rank l).length=l.length:=foldN_len _ _
theorem find_none {α:Type} {q:α→Bool} {l:List α} {i:Nat} (h:∀x∈l.take i,q x=false) (hi:¬i<l.length):l.findIdx? q=none:=by
 rw[List.take_of_length_le (by omega)] at h;rw[List.findIdx?_eq_none_iff];exact h
theorem find_some {α:Type} {q:α→Bool} {l:List α} {i:Nat} {x:α} (h:∀x∈l.take i,q x=false) (hx:l[i]?=some x) (hq:q x=true):l.findIdx? q=some i:=by
 have hi:i<l.length:=(List.getElem?_eq_some_iff.1 hx).1;rw[List.findIdx?_eq_some_iff_getElem];refine⟨hi,by rw[(List.getElem_eq_iff hi).2 hx];exact hq,fun j hj=>?_⟩;have:=h _ (List.mem_take_iff_getElem.2 ⟨j,by omega,rfl⟩);simp[this]
theorem fz97 (g:Gr) (hg:g.Small):FH pg Tq 97 [.agg (eGr g)] h0 0 fun r h _=>OwnFc (reachRef g) r h:=by
 have hg1:g.prods.length<2^60:=hg.1;refine FH.of (N:=74) (rs:=#[.tmp 2]) Tryz.func97 rfl rfl (of_decide_eq_true rfl) rfl (by decide) ?_;refine W.rseq (k:=2) rfl fun K hK=>?_;simp only[go_sem];refine hK _ _ _ ?_;clear hK K;refine W.seq ?_;refine W.rseq (k:=3) rfl fun K hK=>?_;simp only[go_sem];refine VCall.frz 6 (fz24 g hg) rfl ?_;try simp only[go_sem];refine hK _ _ _ ?_;clear hK K
 cases hr:right g
 ·refine W.condT (by simp only[go_sem]) ?_;refine W.rseq (k:=1) rfl fun K hK=>?_;simp only[go_sem];refine hK _ _ _ ?_;clear hK K;refine W.ret ?_;simp only[go_sem]
  exact .inl ⟨by simp[reachRef,hr],.inl rfl⟩
 refine W.condF (by simp only[go_sem]) ?_;refine W.skip ?_;simp only[go_sem];obtain⟨⟨hn1,hn2⟩,_,⟨hs1,hs2⟩,hp60,hright⟩:=right_in hr;refine W.rseq (k:=4) rfl fun K hK=>?_;simp only[go_sem,show(0:Int)≤g.nons by omega,show g.nons*16≤140737488355328 by omega,show(0:Nat)<16 by omega,show(0:Nat)<2 by omega];refine hK _ _ _ ?_;clear hK K
 have hrep:List.replicate g.nons.toNat [AV.int .i64 0,AV.int .i64 0]=(List.replicate g.nons.toNat ((0,0):Fc)).map eFc:=by simp[eFc]
 have hget:(List.replicate g.nons.toNat ((0,0):Fc))[g.start.toNat]?=some (0,0):=by
  rw[List.getElem?_replicate,if_pos (by omega)]
 refine W.rseq (k:=6) rfl fun K hK=>?_;simp only[go_sem,hrep,hget,hs1,show g.start<((g.nons.toNat:Nat):Int) by omega,show g.start.toNat<g.nons.toNat by omega,List.length_map,List.length_replicate];refine hK _ _ _ ?_;clear hK K
 obtain⟨bl,hbl⟩:∃bl,bl=7:=⟨_,rfl⟩;obtain⟨M,hM⟩:∃M,M=g.nons.toNat:=⟨_,rfl⟩;have hMn:(M:Int)=g.nons:=by omega
 refine W.seq ?_;refine W.rseq (k:=1) rfl fun K hK=>?_;simp only[go_sem];refine hK _ _ _ ?_;clear hK K
 refine W.block (W.while (fun m t h n=>∃(l:List Fc) (rank:Int),l.length=M∧2≤rank∧rank+m=M+1∧refLoop g m rank l=refLoop g (M - 1) 2 (reachI g)∧bl<n∧t 1=.ptr 0 0 0∧t 3=.sl bl 0 l.length 2∧t 4=.int .i64 rank∧
   h 0=some (.cells [eGr g])∧h bl=some (.cells (l.map eFc))) (M - 1)
  ⟨reachI g,2,by rw[reachI_len,hM],by omega,by omega,rfl,by omega,rfl,by rw[reachI_len,hbl];rfl,rfl,by simp only[go_sem],by simp only[go_sem,hbl,reachI,List.map_set]⟩ fun m t h n ⟨l,rank,i1,i2,i3,i5,i6,i7,i8,i9,i10,i11⟩=>?_)
 have hIn:g.In l:=right_In hr (by omega);refine W.seq ?_;refine W.rseq (k:=4) rfl fun K hK=>?_;simp only[go_sem,i7,i9,i10,←hMn];refine hK _ _ _ ?_;clear hK K
 refine W.cond rfl (fun hc=>?_) fun hc=>?_
 ·refine W.skip ?_;simp only[go_sem];have hrk:rank≤M:=by simpa using hc
  obtain⟨m',rfl⟩:∃m',m=m'+1:=⟨m - 1,by omega⟩;rw[refLoop] at i5;refine W.seq (W.block ?_);refine W.rseq (k:=1) rfl fun K hK=>?_;simp only[go_sem];refine hK _ _ _ ?_;clear hK K
  refine W.block (W.while (fun m t h n=>∃non:Nat,m=M - non∧non≤M∧bl<n∧t 1=.ptr 0 0 0∧t 3=.sl bl 0 l.length 2∧t 4=.int .i64 rank∧t 5=.int .i64 non∧h 0=some (.cells [eGr g])∧h bl=some (.cells (((List.range non).foldl (refN g rank) l).map eFc))) M
   ⟨0,by simp,by simp,by omega,i7,i8,i9,rfl,by simp only[go_sem,i10],by simp only[go_sem,i11];rfl⟩ fun m t h n ⟨non,j1,j2,j3,j4,j5,j6,j7,j8,j9⟩=>?_)
  refine W.seq ?_;refine W.rseq (k:=4) rfl fun K hK=>?_;simp only[go_sem,j4,j7,j8,←hMn];refine hK _ _ _ ?_;clear hK K
  refine W.cond rfl (fun hc2=>?_) fun hc2=>?_
  ·refine W.skip ?_;simp only[go_sem];have hnon:non<M:=by simp at hc2;omega
   have hfold:(List.range (non+1)).foldl (refN g rank) l=refN g rank ((List.range non).foldl (refN g rank) l) non:=by
    rw[List.range_succ,List.foldl_append];rfl
   have hlen:((List.range non).foldl (refN g rank) l).length=l.length:=foldN_len _ _;generalize (List.range non).foldl (refN g rank) l=s at*;have hIns:g.In s:=hIn.of hlen;refine W.seq (W.block ?_);refine W.rseq (k:=1) rfl fun K hK=>?_;simp only[go_sem];refine hK _ _ _ ?_;clear hK K
   refine W.block (W.while (fun m t h n=>∃(i:Nat) (c:List Fc),m=g.prods.length - i∧i≤g.prods.length∧bl<n∧t 1=.ptr 0 0 0∧t 3=.sl bl 0 l.length 2∧t 4=.int .i64 rank∧t 5=.int .i64 non∧t 6=.int .i64 i∧h 0=some (.cells [eGr g])∧h bl=some (.cells (c.map eFc))∧c.length=l.length∧
     ((c=s∧∀p∈g.prods.take i,refQ rank s non p=false)∨(c=refN g rank s non∧rk c non≠0))) g.prods.length
    ⟨0,s,by simp,by simp,by omega,j4,j5,j6,j7,rfl,by simp only[go_sem,j8],by simp only[go_sem,j9],hlen,.inl ⟨rfl,by simp⟩⟩ fun m t h n ⟨i,c,k1,k2,k3,k4,k5,k6,k7,k8,k9,k10,k11,k12⟩=>?_)
   have hnl:non<c.length:=by omega
   obtain⟨b,hb⟩:=fc_get (l:=c) (n:=(non:Int)) (by omega) (by omega);have hb':c[non]?=some (rk c non,b):=by simpa using hb
   refine W.seq ?_;refine W.rseq (k:=13) rfl fun K hK=>?_;simp only[go_sem,k4,k8,k9]
   by_cases hi:i<g.prods.length
   ·have hi':decide ((i:Int)<(g.prods.length:Int))=true:=by simp[hi]
    obtain⟨p,hp⟩:=get_some hi;have hm:p∈g.prods:=List.mem_of_getElem? hp;obtain⟨⟨hl0,hl1⟩,hin⟩:=hIns p hm;simp only[go_sem,hi',k5,k7,k10,show(non:Int)<(l.length:Int) by omega,hb'];by_cases c0:rk c non=0
    ·have k12':c=s∧∀p∈g.prods.take i,refQ rank s non p=false:=by
      rcases k12 with h|h
      ·exact h
      ·exact(h.2 c0).elim
     obtain⟨rfl,k13⟩:=k12';obtain⟨b3,hb3⟩:=fc_get hl0 hl1;have hwr:IntKind.wrap .i64 (rank - 1)=rank - 1:=wrap64 (by omega) (by omega);simp only[go_sem,c0];refine hK _ _ _ ?_;clear hK K;refine W.condT (by simp only[go_sem]) ?_;refine W.skip ?_;simp only[go_sem];refine W.seq (W.block ?_);refine W.rseq (k:=22) rfl fun K hK=>?_;simp only[go_sem,k4,k7,k8,k9,hp];refine VCall.frz 6 (fz160 p non (hg.2 p hm)) rfl ?_
     by_cases hq:refQ rank c non p=true
     ·have hq':stands p non=true∧rk c p.left=rank - 1:=by simpa[refQ] using hq
      have hset:refN g rank c non=c.set non (rank,(i:Int)):=by
       unfold refN;rw[if_pos c0,find_some k13 hp hq]
      simp only[go_sem,hq'.1,hq'.2,k4,k5,k6,k8,k9,k10,hp,hwr,hl0,show p.left<(l.length:Int) by omega,hb3];refine hK _ _ _ ?_;clear hK K;refine W.condT (by simp only[go_sem]) ?_;refine W.region (k:=7) rfl ?_;simp only[go_sem,k5,k6,k7,k8,k10,show(non:Int)<(l.length:Int) by omega,hb',show non<c.length by omega];refine W.region (k:=3) rfl ?_;simp only[go_sem,k8];refine⟨g.prods.length - (i+1),by omega,i+1,c.set non (rank,(i:Int)),rfl,by omega,by omega,k4,k5,k6,k7, ?_, ?_, ?_,by simpa using k11,.inr ⟨hset.symm, ?_⟩⟩
      ·rw[wrap64 (by omega) (by omega)];rfl
      ·simp only[go_sem,show ¬0=bl by omega,k9]
      ·simp only[go_sem,List.map_set]
      ·rw[rk_set,if_pos ⟨by simp,hnl⟩];simp only;omega
     ·have hq0:refQ rank c non p=false:=by simpa using hq
      have nx:∀(t':Fr) (h':Heap) (n':Nat),t' 66=.bool false→bl<n'→t' 1=.ptr 0 0 0→t' 3=.sl bl 0 l.length 2→t' 4=.int .i64 rank→t' 5=.int .i64 non→t' 6=.int .i64 i→h' 0=some (.cells [eGr g])→h' bl=some (.cells (c.map eFc))→K t' h' n':=by
       intro t' h' n' y66 y0 y1 y3 y4 y5 y6 yh yl;refine hK _ _ _ ?_;clear hK K;refine W.condF (by simp only[go_sem,y66]) ?_;refine W.skip ?_;simp only[go_sem];refine W.region (k:=3) rfl ?_;simp only[go_sem,y6];refine⟨g.prods.length - (i+1),by omega,i+1,c,rfl,by omega,by omega,y1,y3,y4,y5, ?_,yh,yl,k11,.inl ⟨rfl,take_snoc_all k13 hp hq0⟩⟩;rw[wrap64 (by omega) (by omega)];rfl
      cases hst:stands p non
      ·simp only[go_sem];exact nx _ _ _ rfl (by omega) k4 k5 k6 k7 k8 k9 k10
      ·have hne:decide (rk c p.left=rank - 1)=false:=by simpa[refQ,hst] using hq0
       simp only[go_sem,k4,k5,k6,k8,k9,k10,hp,hwr,hl0,show p.left<(l.length:Int) by omega,hb3,hne];exact nx _ _ _ rfl (by omega) k4 k5 k6 k7 k8 k9 k10
    ·have hce:c=refN g rank s non:=by
      rcases k12 with ⟨h,_⟩|h
      ·subst h;unfold refN;rw[if_neg c0]
      ·exact h.1
     simp only[go_sem,c0];refine hK _ _ _ ?_;clear hK K;refine W.condF (by simp only[go_sem]) ?_;refine W.exit ?_;simp only[go_sem];refine W.region (k:=3) rfl ?_;simp only[go_sem,k7];refine⟨M - (non+1),by omega,non+1,rfl,by omega,by omega,k4,k5,k6, ?_,k9, ?_⟩
     ·rw[wrap64 (by omega) (by omega)];rfl
     ·rw[hfold,←hce];exact k10
   ·have hi':decide ((i:Int)<(g.prods.length:Int))=false:=by simp;omega
    have hce:c=refN g rank s non:=by
     rcases k12 with ⟨h,h2⟩|h
     ·subst h;unfold refN;rw[find_none h2 hi];split<;>rfl
     ·exact h.1
    simp only[go_sem,hi'];refine hK _ _ _ ?_;clear hK K;refine W.condF (by simp only[go_sem]) ?_;refine W.exit ?_;simp only[go_sem];refine W.region (k:=3) rfl ?_;simp only[go_sem,k7];refine⟨M - (non+1),by omega,non+1,rfl,by omega,by omega,k4,k5,k6, ?_,k9, ?_⟩
    ·rw[wrap64 (by omega) (by omega)];rfl
    ·rw[hfold,←hce];exact k10
  ·refine W.exit ?_;simp only[go_sem];have hnon:non=M:=by simp at hc2;omega
   subst hnon;have e:(List.range non).foldl (refN g rank) l=refR g rank l:=by rw[←i1];rfl
   rw[e] at j9;refine W.region (k:=3) rfl ?_;simp only[go_sem,j6];refine⟨m',by omega,refR g rank l,rank+1,by rw[refR_len];exact i1,by omega,by omega,i5,by omega,j4, ?_, ?_,j8,j9⟩
   ·rw[refR_len];exact j5
   ·rw[wrap64 (by omega) (by omega)]
 ·refine W.exit ?_;simp only[go_sem];refine W.rseq (k:=2) rfl fun K hK=>?_;simp only[go_sem,i8];refine hK _ _ _ ?_;clear hK K;refine W.ret ?_;simp only[go_sem]
  have hm:m=0:=by simp at hc;omega
  subst hm;rw[refLoop] at i5;have:reachRef g=l:=by rw[reachRef,hr,if_pos rfl,←hM,←i5]
  rw[this];exact .inr ⟨bl,rfl,i11⟩
end Go.Av
