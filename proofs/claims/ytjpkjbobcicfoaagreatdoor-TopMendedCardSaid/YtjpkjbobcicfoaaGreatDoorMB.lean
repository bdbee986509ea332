/-
  TopMended: a word that is mended is accepted as mended. Conditions: none.
-/
import Derived.Test.YtjpkjbobcicfoaaGreatDoorZ7
import Derived.Test.YtjpkjbobcicfoaaGreatDoorM9
set_option linter.unusedSimpArgs false
set_option linter.unusedVariables false
namespace Go.Av
open Go.Proofs
set_option maxRecDepth 100000
set_option maxHeartbeats 16000000 in
theorem fz13 (g:Gr) (hg:g.Small) (w:List Int):∃b,PF pg Tq 13 [.agg (eGr g),.ro (w.map eIn)] (.bool b)∧(b=false→w.length<2^40):=by
 have fin:FH pg Tq 13 [.agg (eGr g),.ro (w.map eIn)] h0 0 fun r _ _=>∃b,r=.bool b∧(b=false→w.length<2^40):=by
  refine FH.of (N:=87) (rs:=#[.tmp 4]) Tryz.func13 rfl rfl (of_decide_eq_true rfl) rfl (by decide) ?_;refine W.rseq (k:=2) rfl fun K hK=>?_;simp only[go_sem];refine hK _ _ _ ?_;clear hK K;refine W.seqk fun K hK=>?_
  have nx:∀(t':Fr) (h':Heap) (n':Nat),w.length<2^40→t' 1=.ro (w.map eIn)→t' 2=.ptr 0 0 0→h' 0=some (.cells [eGr g])→0<n'→K t' h' n':=by
   intro t' h' n' hwl e1 e2 k0 hn;refine hK _ _ _ ?_;clear hK;have z0:∀j,¬0=n'+j:=fun j=>by omega
   refine W.seq ?_;refine W.rseq (k:=4) rfl fun K hK=>?_;simp only[go_sem,e1,e2,k0,z0];refine VCall.frz 6 (fz14 g hg w hwl) rfl ?_;simp only[go_sem];refine hK _ _ _ ?_
   first|clear hK K|clear hK|skip
   cases hf:fitG g w
   ·refine W.condT (by simp only[go_sem,hf]) ?_;refine W.rseq (k:=1) rfl fun K hK=>?_;simp only[go_sem];refine hK _ _ _ ?_;clear hK K;refine W.ret ?_;simp only[go_sem]
    exact⟨_,rfl,fun _=>hwl⟩
   ·refine W.condF (by simp only[go_sem,hf]) ?_;refine W.skip ?_;simp only[go_sem];have hG:=fit_good hf;have hr:=fit_right hf;obtain⟨⟨hN1,hN2⟩,_,_,hp60,hr5⟩:=right_in hr;obtain⟨hlen,_⟩:=ranks_fin (terms:=true) hr;obtain⟨L,hL⟩:∃L:Nat,g.nons=L:=⟨g.nons.toNat,by omega⟩;obtain⟨fs,hfs⟩:∃fs,fs=ranksRef g true:=⟨_,rfl⟩;have hfl:fs.length=L:=by rw[hfs,←ranks_same];omega
    have hfact:∀(j:Nat) (f:Fc),fs[j]?=some f→∃(i:Nat) (p:Pr),f.2=i∧g.prods[i]?=some p:=fun j f hj=>by
     have hj':=(List.getElem?_eq_some_iff.1 hj).1;obtain⟨i,q1,q2,p,q3,q4⟩:=hG.fact j (by omega) (by omega);rw[ranks_same,←hfs,Int.toNat_natCast,List.getD_eq_getElem?_getD,hj] at q1;exact⟨i,p,q1,q3⟩
    refine W.rseq (k:=3) rfl fun K hK=>?_;simp only[go_sem,e2,k0,z0];refine VCall.frz 6 (OwnFc.pf (fz36 g hg true)) rfl ?_;try simp only[go_sem,e2,k0,z0];refine hK _ _ _ ?_;clear hK K
    rw[←hfs];refine W.rseq (k:=4) rfl fun K hK=>?_;simp only[go_sem,List.length_map,hfl,show(0:Int)≤(L:Int) by omega,show(L:Int)*8≤140737488355328 by omega];refine hK _ _ _ ?_;clear hK K
    obtain⟨bS,hbS⟩:∃bS,bS=n'+4+3+2:=⟨_,rfl⟩;refine W.seqk fun K hK=>?_
    have nx2:∀(t2:Fr) (h2:Heap) (n2:Nat) (zs:List Int),bS<n2→h2 bS=some (.cells (zs.map eIn))→zs.length=L→t2 6=.sl bS 0 L 1→K t2 h2 n2:=by
     intro t2 h2 n2 zs d1 d2 d3 d4;refine hK _ _ _ ?_;clear hK;have zS:∀j,¬bS=n2+j:=fun j=>by omega
     refine W.seqk fun K hK=>?_
     have nx3:∀(t3:Fr) (h3:Heap) (n3:Nat),K t3 h3 n3:=by
      intro t3 h3 n3;refine hK _ _ _ ?_
      first|clear hK K|clear hK|skip
      refine W.rseq (k:=1) rfl fun K hK=>?_;simp only[go_sem];refine hK _ _ _ ?_;clear hK K;refine W.ret ?_;simp only[go_sem]
      exact⟨_,rfl,fun _=>hwl⟩
     clear hK;refine W.rseq (k:=3) rfl fun K hK=>?_;simp only[go_sem,d4];refine hK _ _ _ ?_;clear hK K
     refine W.block (W.while (fun mm t3 h3 n3=>∃(j:Nat),mm=L - j∧j≤L∧bS<n3∧h3 bS=some (.cells (zs.map eIn))∧(t3 78=.sl bS 0 L 1∧t3 79=.int .i64 L)∧t3 80=.int .i64 j) L
      ⟨0,by simp,by simp,by omega,d2,⟨rfl,rfl⟩,rfl⟩ fun mm t3 h3 n3 ⟨j,i1,i2,i3,i4,⟨a78,a79⟩,i5⟩=>?_)
     have zS3:∀j,¬bS=n3+j:=fun j=>by omega
     refine W.rseq (k:=1) rfl fun K hK=>?_;simp only[go_sem,a79,i5];refine hK _ _ _ ?_;clear hK K;refine W.seq ?_
     refine W.cond rfl (fun hc=>?_) fun hc=>?_
     ·refine W.skip ?_;simp only[go_sem];have hj:j<L:=by simp at hc;omega
      obtain⟨z,hz⟩:=get_some (show j<zs.length by omega);have hzk:(zs.map eIn)[j]?=some (eIn z):=by rw[List.getElem?_map,hz];rfl
      refine W.seq ?_;refine W.block ?_;refine W.rseq (k:=3) rfl fun K hK=>?_;simp only[go_sem,a78,i5,i4,zS3,hzk,eIn,Nat.zero_add,show((j:Int)<(L:Int))=True from eq_true (by omega),show(0:Int)≤(j:Int) by omega];refine hK _ _ _ ?_;clear hK K;refine W.rseq (k:=2) rfl fun K hK=>?_;simp only[go_sem];refine hK _ _ _ ?_;clear hK K
      refine W.cond rfl (fun hc=>?_) fun hc=>?_
      ·refine W.rseq (k:=1) rfl fun K hK=>?_;simp only[go_sem];refine hK _ _ _ ?_;clear hK K;refine W.ret ?_;simp only[go_sem]
       exact⟨_,rfl,fun _=>hwl⟩
      ·refine W.skip ?_;simp only[go_sem];refine W.region (k:=2) rfl ?_;simp only[go_sem,i5];refine⟨L - (j+1),by omega,j+1,rfl,by omega,by omega,i4,⟨a78,a79⟩, ?_⟩;rw[wrap64 (by omega) (by omega)];rfl
     ·refine W.exit ?_;simp only[go_sem];exact nx3 _ _ _
    clear hK;refine W.rseq (k:=3) rfl fun K hK=>?_;simp only[go_sem,List.length_map,hfl];refine hK _ _ _ ?_;clear hK K
    refine W.block (W.while (fun mm t2 h2 n2=>∃(j:Nat) (zs:List Int),mm=L - j∧j≤L∧bS<n2∧(h2 0=some (.cells [eGr g])∧h2 bS=some (.cells (zs.map eIn))∧zs.length=L∧∀z∈zs,0≤z∧z≤1000)∧(t2 2=.ptr 0 0 0∧t2 5=.ro (fs.map eFc)∧t2 6=.sl bS 0 L 1∧t2 37=.int .i64 L)∧t2 38=.int .i64 j) L
     ⟨0,List.replicate L 0,by simp,by simp,by omega,⟨?_, ?_,by simp,fun z hz=>by rw[(List.mem_replicate.1 hz).2];omega⟩,⟨e2,rfl, ?_,rfl⟩,rfl⟩ fun mm t2 h2 n2 ⟨j,zs,i1,i2,i3,⟨i4,i5,i6,i7⟩,⟨a2,a5,a6,a37⟩,i8⟩=>?_)
    ·simp only[go_sem,show ∀j,¬0=n'+j from fun j=>by omega];exact k0
    ·rw[hbS];simp only[go_sem,List.map_replicate,eIn,Int.toNat_natCast]
    ·rw[hbS];simp only[go_sem,Int.toNat_natCast]
    refine W.rseq (k:=1) rfl fun K hK=>?_;simp only[go_sem,a37,i8];refine hK _ _ _ ?_;clear hK K;refine W.seq ?_
    refine W.cond rfl (fun hc=>?_) fun hc=>?_
    ·refine W.skip ?_;simp only[go_sem];have hj:j<L:=by simp at hc;omega
     refine W.seqk fun K hK=>?_
     have nxA:∀(t3:Fr) (h3:Heap) (n3:Nat) (zs:List Int),bS<n3→h3 0=some (.cells [eGr g])→h3 bS=some (.cells (zs.map eIn))→zs.length=L→(∀z∈zs,0≤z∧z≤1000)→(t3 2=.ptr 0 0 0∧t3 5=.ro (fs.map eFc)∧t3 6=.sl bS 0 L 1∧t3 37=.int .i64 L)→t3 38=.int .i64 j→K t3 h3 n3:=by
      intro t3 h3 n3 zs d1 d2 d3 d4 d5 d6 d7;refine hK _ _ _ ?_;clear hK;refine W.region (k:=2) rfl ?_;simp only[go_sem,d7];refine⟨L - (j+1),by omega,j+1,zs,rfl,by omega,by omega,⟨d2,d3,d4,d5⟩,d6, ?_⟩;rw[wrap64 (by omega) (by omega)];rfl
     clear hK;refine W.block ?_;refine W.rseq (k:=3) rfl fun K hK=>?_;simp only[go_sem,a5,List.length_map,hfl];refine hK _ _ _ ?_;clear hK K
     refine W.block (W.while (fun mm t3 h3 n3=>∃(q:Nat) (zs:List Int),mm=L - q∧q≤L∧bS<n3∧(h3 0=some (.cells [eGr g])∧h3 bS=some (.cells (zs.map eIn))∧zs.length=L∧∀z∈zs,0≤z∧z≤1000)∧(t3 2=.ptr 0 0 0∧t3 5=.ro (fs.map eFc)∧t3 6=.sl bS 0 L 1∧t3 37=.int .i64 L)∧t3 38=.int .i64 j∧(t3 40=.ro (fs.map eFc)∧t3 41=.int .i64 L)∧t3 42=.int .i64 q) L
      ⟨0,zs,by simp,by simp,by omega,⟨i4,i5,i6,i7⟩,⟨a2,a5,a6,a37⟩,i8,⟨rfl,rfl⟩,rfl⟩ fun mm t3 h3 n3 ⟨q,zs,j1,j2,j3,⟨j4,j5,j6,j7⟩,⟨b2,b5,b6,b37⟩,b38,⟨b40,b41⟩,b42⟩=>?_)
     refine W.rseq (k:=1) rfl fun K hK=>?_;simp only[go_sem,b41,b42];refine hK _ _ _ ?_;clear hK K;refine W.seq ?_
     refine W.cond rfl (fun hc=>?_) fun hc=>?_
     ·refine W.skip ?_;simp only[go_sem];have hq:q<L:=by simp at hc;omega
      obtain⟨f,hfq⟩:=get_some (show q<fs.length by omega);have hfk:(fs.map eFc)[q]?=some (eFc f):=by rw[List.getElem?_map,hfq];rfl
      obtain⟨i,p,hfi,hp⟩:=hfact q f hfq;have hpk:(g.prods.map ePr)[i]?=some (ePr p):=by rw[List.getElem?_map,hp];rfl
      obtain⟨_,hp8,hps⟩:=hr5 p (List.mem_of_getElem? hp);have z03:∀j,¬0=n3+j:=fun j=>by omega
      have zS3:∀j,¬bS=n3+j:=fun j=>by omega
      refine W.seqk fun K hK=>?_
      have nxB:∀(t4:Fr) (h4:Heap) (n4:Nat) (zs:List Int),bS<n4→h4 0=some (.cells [eGr g])→h4 bS=some (.cells (zs.map eIn))→zs.length=L→(∀z∈zs,0≤z∧z≤1000)→(t4 2=.ptr 0 0 0∧t4 5=.ro (fs.map eFc)∧t4 6=.sl bS 0 L 1∧t4 37=.int .i64 L)→t4 38=.int .i64 j→(t4 40=.ro (fs.map eFc)∧t4 41=.int .i64 L)→t4 42=.int .i64 q→K t4 h4 n4:=by
       intro t4 h4 n4 zs d1 d2 d3 d4 d5 d6 d7 d8 d9;refine hK _ _ _ ?_;clear hK;refine W.region (k:=2) rfl ?_;simp only[go_sem,d9];refine⟨L - (q+1),by omega,q+1,zs,rfl,by omega,by omega,⟨d2,d3,d4,d5⟩,d6,d7,d8, ?_⟩;rw[wrap64 (by omega) (by omega)];rfl
      clear hK;refine W.block ?_;refine W.rseq (k:=6) rfl fun K hK=>?_;simp only[go_sem,b40,b42,hfk,eFc,hfi];refine hK _ _ _ ?_;clear hK K;refine W.rseq (k:=1) rfl fun K hK=>?_;simp only[go_sem];refine hK _ _ _ ?_;clear hK K;refine W.seqk fun K hK=>?_
      have nxC:∀(t4:Fr) (h4:Heap) (n4:Nat) (v:Int),bS<n4→h4 0=some (.cells [eGr g])→h4 bS=some (.cells (zs.map eIn))→(t4 2=.ptr 0 0 0∧t4 5=.ro (fs.map eFc)∧t4 6=.sl bS 0 L 1∧t4 37=.int .i64 L)→t4 38=.int .i64 j→(t4 40=.ro (fs.map eFc)∧t4 41=.int .i64 L)→t4 42=.int .i64 q→t4 7=.int .i64 q→t4 9=.int .i64 v→0≤v→v≤1000→K t4 h4 n4:=by
       intro t4 h4 n4 v d1 d2 d3 d4 d5 d6 d7 d8 d9 d10 d11;refine hK _ _ _ ?_;clear hK;obtain⟨c2,c5,c6,c37⟩:=d4;have zS4:∀j,¬bS=n4+j:=fun j=>by omega
       obtain⟨zq,hzq⟩:=get_some (show q<zs.length by omega);have hzk:(zs.map eIn)[q]?=some (eIn zq):=by rw[List.getElem?_map,hzq];rfl
       refine W.region (k:=5) rfl ?_;simp only[go_sem,c6,d8,d9,d3,zS4,hzk,eIn,Nat.zero_add,show((q:Int)<(L:Int))=True from eq_true (by omega),show(0:Int)≤(q:Int) by omega];refine nxB _ _ _ (zs.set q v) (by omega) ?_ ?_ (by simp[j6]) (fun z hz=>?_) ⟨c2,c5,c6,c37⟩ d5 d6 d7
       ·simp only[go_sem,show ¬0=bS by omega];exact d2
       ·simp only[go_sem];rw[List.map_set];rfl
       ·rcases List.mem_or_eq_of_mem_set hz with hz|rfl
        ·exact j7 z hz
        ·omega
      clear hK;refine W.rseq (k:=9) rfl fun K hK=>?_;simp only[go_sem,b2,j4,z03,hpk,ePr,eGr,List.length_map];refine hK _ _ _ ?_;clear hK K
      refine W.block (W.while (fun mm t4 h4 n4=>∃(k:Nat) (v:Int),mm=p.right.length - k∧k≤p.right.length∧bS<n4∧(h4 0=some (.cells [eGr g])∧h4 bS=some (.cells (zs.map eIn)))∧(t4 2=.ptr 0 0 0∧t4 5=.ro (fs.map eFc)∧t4 6=.sl bS 0 L 1∧t4 37=.int .i64 L)∧t4 38=.int .i64 j∧(t4 40=.ro (fs.map eFc)∧t4 41=.int .i64 L)∧t4 42=.int .i64 q∧t4 7=.int .i64 q∧t4 9=.int .i64 v∧(0≤v∧v≤200+k)∧(t4 53=.ro (p.right.map eSy)∧t4 54=.int .i64 p.right.length)∧t4 55=.int .i64 k) p.right.length
       ⟨0,1,by simp,by simp,by omega,⟨?_, ?_⟩,⟨b2,b5,b6,b37⟩,b38,⟨b40,b41⟩,b42,rfl,rfl,by omega,⟨rfl,rfl⟩,rfl⟩ fun mm t4 h4 n4 ⟨k,v,k1,k2,k3,⟨k4,k5⟩,k6,k7,k8,k9,k10,k11,k12,⟨c53,c54⟩,c55⟩=>?_)
      ·simp only[go_sem,z03];exact j4
      ·simp only[go_sem,zS3];exact j5
      refine W.rseq (k:=1) rfl fun K hK=>?_;simp only[go_sem,c54,c55];refine hK _ _ _ ?_;clear hK K;refine W.seq ?_
      refine W.cond rfl (fun hc=>?_) fun hc=>?_
      ·refine W.skip ?_;simp only[go_sem];have hk:k<p.right.length:=by simp at hc;omega
       obtain⟨s,hs⟩:=get_some hk;have hsk:(p.right.map eSy)[k]?=some (eSy s):=by rw[List.getElem?_map,hs];rfl
       have hsn:=hps s (List.mem_of_getElem? hs);have z04:∀j,¬0=n4+j:=fun j=>by omega
       have zS4:∀j,¬bS=n4+j:=fun j=>by omega
       refine W.seqk fun K hK=>?_
       have nxD:∀(t5:Fr) (h5:Heap) (n5:Nat) (v:Int),bS<n5→h5 0=some (.cells [eGr g])→h5 bS=some (.cells (zs.map eIn))→(t5 2=.ptr 0 0 0∧t5 5=.ro (fs.map eFc)∧t5 6=.sl bS 0 L 1∧t5 37=.int .i64 L)→t5 38=.int .i64 j→(t5 40=.ro (fs.map eFc)∧t5 41=.int .i64 L)→t5 42=.int .i64 q→t5 7=.int .i64 q→t5 9=.int .i64 v→(0≤v∧v≤200+(k+1:Nat))→(t5 53=.ro (p.right.map eSy)∧t5 54=.int .i64 p.right.length)→t5 55=.int .i64 k→K t5 h5 n5:=by
        intro t5 h5 n5 v d1 d2 d3 d4 d5 d6 d7 d8 d9 d10 d11 d12;refine hK _ _ _ ?_;clear hK;refine W.region (k:=2) rfl ?_;simp only[go_sem,d12];refine⟨p.right.length - (k+1),by omega,k+1,v,rfl,by omega,by omega,⟨d2,d3⟩,d4,d5,d6,d7,d8,d9,d10,d11, ?_⟩;rw[wrap64 (by omega) (by omega)];rfl
       clear hK;obtain⟨m2,m5,m6,m37⟩:=k6;refine W.block ?_;refine W.rseq (k:=4) rfl fun K hK=>?_;simp only[go_sem,c53,c55,hsk,eSy];refine hK _ _ _ ?_;clear hK K
       have hx0:∀o o',upd (upd h4 (n4+3) o) (n4+3) o' 0=h4 0:=fun o o'=>by rw[upd_app,if_neg (by omega),upd_app,if_neg (by omega)]
       have hxS:∀o o',upd (upd h4 (n4+3) o) (n4+3) o' bS=h4 bS:=fun o o'=>by rw[upd_app,if_neg (by omega),upd_app,if_neg (by omega)]
       cases hsb:s.non
       ·rw[hsb] at hsn;refine W.rseq (k:=2) rfl fun K hK=>?_;simp only[go_sem];refine hK _ _ _ ?_;clear hK K;refine W.condF (by simp only[go_sem]) ?_;refine W.region (k:=3) rfl ?_;simp only[go_sem,k11]
        refine nxD _ _ _ (v+1) (by omega) ((hx0 _ _).trans k4) ((hxS _ _).trans k5) ⟨m2,m5,m6,m37⟩ k7 k8 k9 k10 ?_ (by omega) ⟨c53,c54⟩ c55;rw[wrap64 (by omega) (by omega)];rfl
       ·rw[hsb] at hsn;obtain⟨sn,hsnn⟩:∃sn:Nat,s.n=sn:=⟨s.n.toNat,by omega⟩;have hsl:sn<L:=by simp at hsn;omega
        obtain⟨zq,hzq⟩:=get_some (show sn<zs.length by omega);have hzk:(zs.map eIn)[sn]?=some (eIn zq):=by rw[List.getElem?_map,hzq];rfl
        have hzb:=j7 zq (List.mem_of_getElem? hzq);refine W.rseq (k:=2) rfl fun K hK=>?_;simp only[go_sem];refine hK _ _ _ ?_;clear hK K;refine W.condT (by simp only[go_sem]) ?_;refine W.region (k:=9) rfl ?_;simp only[go_sem,k11,m6,hsnn,k5,zS4,hzk,eIn,Nat.zero_add,show ¬bS=n4+3 by omega,show((sn:Int)<(L:Int))=True from eq_true (by omega),show(0:Int)≤(sn:Int) by omega]
        rw[wrap64 (by omega) (by omega)];by_cases hmin:(200:Int)<v+zq
        ·simp only[hmin,if_true];exact nxD _ _ _ 200 (by omega) ((hx0 _ _).trans k4) ((hxS _ _).trans k5) ⟨m2,m5,m6,m37⟩ k7 k8 k9 k10 rfl (by omega) ⟨c53,c54⟩ c55
        ·simp only[hmin,if_false];exact nxD _ _ _ (v+zq) (by omega) ((hx0 _ _).trans k4) ((hxS _ _).trans k5) ⟨m2,m5,m6,m37⟩ k7 k8 k9 k10 rfl (by omega) ⟨c53,c54⟩ c55
      ·refine W.exit ?_;simp only[go_sem];exact nxC _ _ _ v (by omega) k4 k5 k6 k7 k8 k9 k10 k11 (by omega) (by omega)
     ·refine W.exit ?_;simp only[go_sem];exact nxA _ _ _ zs (by omega) j4 j5 j6 j7 ⟨b2,b5,b6,b37⟩ b38
    ·refine W.exit ?_;simp only[go_sem];exact nx2 _ _ _ zs (by omega) i5 i6 a6
  clear hK;cases hL1:largeS g w
  ·have hal:w.length<2^40:=by
    unfold largeS at hL1;simp only[Bool.or_eq_false_iff,decide_eq_false_iff_not] at hL1;omega
   by_cases h5:(w.length:Int)>5
   ·by_cases h24:(w.length:Int)<24
    ·refine W.rseq (k:=13) rfl fun K hK=>?_;simp only[go_sem];refine VCall.frz 6 (fz8 g hg w) rfl ?_;simp only[go_sem,hL1,List.length_map,show((5:Int)<w.length)=True from eq_true h5,show((w.length:Int)<24)=True from eq_true h24];refine hK _ _ _ ?_
     first|clear hK K|clear hK|skip
     refine W.condT (by simp only[go_sem]) ?_;refine W.rseq (k:=1) rfl fun K hK=>?_;simp only[go_sem];refine hK _ _ _ ?_;clear hK K;refine W.ret ?_;simp only[go_sem]
     exact⟨_,rfl,fun q=>by cases q⟩
    ·refine W.rseq (k:=13) rfl fun K hK=>?_;simp only[go_sem];refine VCall.frz 6 (fz8 g hg w) rfl ?_;simp only[go_sem,hL1,List.length_map,show((5:Int)<w.length)=True from eq_true h5,show((w.length:Int)<24)=False from eq_false h24];refine hK _ _ _ ?_
     first|clear hK K|clear hK|skip
     refine W.condF (by simp only[go_sem]) ?_;refine W.skip ?_;simp only[go_sem];exact nx _ _ _ hal rfl rfl (by simp only[go_sem]) (by omega)
   ·refine W.rseq (k:=13) rfl fun K hK=>?_;simp only[go_sem];refine VCall.frz 6 (fz8 g hg w) rfl ?_;simp only[go_sem,hL1,List.length_map,show((5:Int)<w.length)=False from eq_false h5];refine hK _ _ _ ?_
    first|clear hK K|clear hK|skip
    refine W.condF (by simp only[go_sem]) ?_;refine W.skip ?_;simp only[go_sem];exact nx _ _ _ hal rfl rfl (by simp only[go_sem]) (by omega)
  ·refine W.rseq (k:=13) rfl fun K hK=>?_;simp only[go_sem];refine VCall.frz 6 (fz8 g hg w) rfl ?_;simp only[go_sem,hL1];refine hK _ _ _ ?_
   first|clear hK K|clear hK|skip
   refine W.condT (by simp only[go_sem]) ?_;refine W.rseq (k:=1) rfl fun K hK=>?_;simp only[go_sem];refine hK _ _ _ ?_;clear hK K;refine W.ret ?_;simp only[go_sem]
   exact⟨_,rfl,fun q=>by cases q⟩
 obtain⟨r,h',n',hb,b,rfl,q⟩:=fin;exact⟨b,Fb ⟨_,h',n',hb,rfl⟩,q⟩
end Go.Av
namespace Go.Av
open Go.Proofs
set_option maxRecDepth 100000
set_option maxHeartbeats 32000000 in
theorem fz4 (g:Gr) (hg:g.Small) (w:List Int):FH pg Tq 4 [.agg (eGr g),.ro (w.map eIn)] h0 0 fun r _ _=>r=.bool true:=by
 obtain⟨b13,hd13,hb13⟩:=fz13 g hg w;refine FH.of (N:=133) (rs:=#[.tmp 4]) Tryz.func4 rfl rfl (of_decide_eq_true rfl) rfl (by decide) ?_;refine W.rseq (k:=2) rfl fun K hK=>?_;simp only[go_sem];refine hK _ _ _ ?_;clear hK K;refine W.seq ?_;refine W.rseq (k:=2) rfl fun K hK=>?_;simp only[go_sem];refine VCall.frz 6 awake_fh rfl ?_;try simp only[go_sem];refine hK _ _ _ ?_;clear hK K;refine W.condF (by simp only[go_sem]) ?_;refine W.skip ?_;simp only[go_sem]
 cases b13
 ·have hwl:=hb13 rfl;have h14:=fz14 g hg w hwl;cases hf:fitG g w
  ·rw[hf] at h14;refine W.seq ?_;refine W.rseq (k:=14) rfl fun K hK=>?_;simp only[go_sem];refine VCall.frz 6 hd13 rfl ?_;try simp only[go_sem];refine VCall.frz 6 h14 rfl ?_;try simp only[go_sem];refine hK _ _ _ ?_;clear hK K;refine W.condT (by simp only[go_sem]) ?_;refine W.rseq (k:=1) rfl fun K hK=>?_;simp only[go_sem];refine hK _ _ _ ?_;clear hK K;refine W.ret ?_;simp only[go_sem]
  ·rw[hf] at h14;by_cases h24:(w.length:Int)≥24
   ·refine W.seq ?_;refine W.rseq (k:=14) rfl fun K hK=>?_;simp only[go_sem,List.length_map,show((24:Int)≤w.length)=True from eq_true h24];refine VCall.frz 6 hd13 rfl ?_;try simp only[go_sem,List.length_map,show((24:Int)≤w.length)=True from eq_true h24];refine VCall.frz 6 h14 rfl ?_;try simp only[go_sem,List.length_map,show((24:Int)≤w.length)=True from eq_true h24];refine hK _ _ _ ?_;clear hK K;refine W.condT (by simp only[go_sem]) ?_;refine W.rseq (k:=1) rfl fun K hK=>?_;simp only[go_sem];refine hK _ _ _ ?_;clear hK K;refine W.ret ?_;simp only[go_sem]
   ·refine W.seq ?_;refine W.rseq (k:=14) rfl fun K hK=>?_;simp only[go_sem,List.length_map,show((24:Int)≤w.length)=False from eq_false h24];refine VCall.frz 6 hd13 rfl ?_;try simp only[go_sem,List.length_map,show((24:Int)≤w.length)=False from eq_false h24];refine VCall.frz 6 h14 rfl ?_;try simp only[go_sem,List.length_map,show((24:Int)≤w.length)=False from eq_false h24];refine hK _ _ _ ?_;clear hK K;refine W.condF (by simp only[go_sem]) ?_;refine W.skip ?_;simp only[go_sem]
    have hl24:w.length<24:=by omega
    have hr:=fit_right hf;have hgS:SmG g:=⟨hg,hr⟩;have hck:=hf;rw[fitG,Bool.and_eq_true] at hck;obtain⟨hck,hfw⟩:=hck;have hck:=of_decide_eq_true hck;have hG:=fit_good hf;obtain⟨Sw,hSw⟩:=sets_of g hgS w;refine W.rseq (k:=9) rfl fun K hK=>?_;simp only[go_sem]
    refine VCall.heap (fz9 g hg _ _) fun r h1 n1 hr1=>?_
    rcases hr1 with ⟨q,_⟩|⟨_,bE,bM,gp,rfl,m1,m2,m3,m4,m5⟩
    ·exact absurd hck q
    simp only[go_sem];refine hK _ _ _ ?_
    first|clear hK K|clear hK|skip
    refine W.seq ?_;refine W.rseq (k:=2) rfl fun K hK=>?_;simp only[go_sem];refine hK _ _ _ ?_;clear hK K;refine W.condF (by simp only[go_sem]) ?_;refine W.skip ?_;simp only[go_sem];refine W.rseq (k:=12) rfl fun K hK=>?_;simp only[go_sem]
    have main:∀(t':Fr) (h':Heap) (n' b8:Nat) (k a' N':Int) (sb:Bool) (ev:AV) (ed:List Ed) (T A:List Int) (L:List (Nat→Nat)),n1≤b8→b8<n'→(t' 1=.ro (w.map eIn)∧t' 5=.ptr bE 0 0∧t' 8=.ptr b8 0 0∧t' 10=.int .i64 0)→h' b8=some (.cells [[.int .i64 k,.ro (A.map eIn),.bool sb,.int .i64 a',.int .u32 N',ev]])→EM g bE bM gp h' n1→
      (ev=.nils∧ed=[]∧k=1∨ev=.ro (ed.map eEd)∧ed≠[]∧k=3)→ed.length<2^30→mayF ed 0 false w.length=true→applF w ed 0=T→fitG g T=true→Der g T [⟨true,g.start⟩] 0 T.length→RowsC g T L→A=(byL g T 0 L).2→K t' h' n':=by
     intro t' h' n' b8 k a' N' sb ev ed T A L d1 d2 ⟨e1,e5,e8,e10⟩ k8 mm dev ded dmay dap dfit dder dL dA;refine hK _ _ _ ?_;clear hK;have z8:∀j,¬b8=n'+j:=fun j=>by omega
     have hTl:=fit_len dfit;obtain⟨ST,hST⟩:=sets_of g hgS T;have hAp:=fz16 w ed (by unfold fitsW at hfw;rw[Bool.and_eq_true] at hfw;exact hfw.1) (by omega) dmay (by rw[dap];exact hTl);rw[dap] at hAp;have hAl:A.length≤2000:=by rw[dA];exact by_len
     have rest:∀(t':Fr) (h':Heap) (n':Nat),True:=fun _ _ _=>trivial
     have hev:rf true 8 h' ev=some (.ro (ed.map eEd)):=by
      rcases dev with ⟨rfl,rfl,_⟩|⟨rfl,_⟩
      ·simp[rf]
      ·simp[rf]
     have hk4:(k=4)=False:=by rcases dev with ⟨_,_,rfl⟩|⟨_,_,rfl⟩<;>exact eq_false (by decide)
     refine W.seq ?_;refine W.rseq (k:=7) rfl fun K hK=>?_;simp only[go_sem,e10,e8,k8,z8,hk4];refine hK _ _ _ ?_;clear hK K;refine W.condF (by simp only[go_sem,hk4]) ?_;refine W.skip ?_;simp only[go_sem];refine W.rseq (k:=9) rfl fun K hK=>?_;simp only[go_sem,e1,e8,k8,z8]
     refine VCall.frzq (as':=[.ro (w.map eIn),.ro (ed.map eEd)]) 9 (rfs_cons (by simp[rf]) (rfs_cons hev rfs_nil)) hAp ?_;simp only[go_sem];refine hK _ _ _ ?_
     first|clear hK K|clear hK|skip
     refine W.seqk fun K hK=>?_
     have nx:∀(t':Fr) (h':Heap) (n':Nat),b8<n'→(t' 5=.ptr bE 0 0∧t' 8=.ptr b8 0 0∧t' 11=.ro (T.map eIn))→h' b8=some (.cells [[.int .i64 k,.ro (A.map eIn),.bool sb,.int .i64 a',.int .u32 N',ev]])→EM g bE bM gp h' n1→K t' h' n':=by
      intro t' h' n' d2 ⟨e5,e8,e11⟩ k8 mm;refine hK _ _ _ ?_;clear hK;by_cases h24:T.length=24
      ·refine W.seq ?_;refine W.rseq (k:=3) rfl fun K hK=>?_;simp only[go_sem,e11,List.length_map,show((T.length:Int)=24)=True from eq_true (by omega)];refine hK _ _ _ ?_;clear hK K;refine W.condT (by simp only[go_sem]) ?_;refine W.rseq (k:=1) rfl fun K hK=>?_;simp only[go_sem];refine hK _ _ _ ?_;clear hK K;refine W.ret ?_;simp only[go_sem]
      ·refine W.seq ?_;refine W.rseq (k:=3) rfl fun K hK=>?_;simp only[go_sem,e11,List.length_map,show((T.length:Int)=24)=False from eq_false (by omega)];refine hK _ _ _ ?_;clear hK K;refine W.condF (by simp only[go_sem]) ?_;refine W.skip ?_;simp only[go_sem]
       have hTl24:T.length<24:=by omega
       have hfT:fitsW g T=true:=by rw[fitG,Bool.and_eq_true] at dfit;exact dfit.2
       have hE8:b8≠bE:=by have:=m1.lE;omega
       have hM8:b8≠bM:=by have:=m1.lM;omega
       have hlE:=m1.lE;have hlM:=m1.lM;refine W.rseq (k:=12) rfl fun K hK=>?_;simp only[go_sem,e5,e11]
       refine VCall.heap (fz10 hgS hck (mm.next (Nat.le_refl _) (fun y hy=>rfl)) (by omega) T (by omega) ST hST) fun r h5 n5 ⟨u0,u1,u2,u3⟩=>?_
       have k85:=(u3 b8 (by omega) hE8 hM8).trans k8;have hl5:n'+15≤n5:=u2
       have nxU:∀(t6:Fr) (h6:Heap) (n6:Nat) (kU:Int) (trU:AV) (sbU:Bool),n5≤n6→(t6 5=.ptr bE 0 0∧t6 8=.ptr b8 0 0∧t6 11=.ro (T.map eIn)∧t6 13=.ptr (n'+10) 0 0∧t6 15=.int .i64 0)→h6 b8=some (.cells [[.int .i64 k,.ro (A.map eIn),.bool sb,.int .i64 a',.int .u32 N',ev]])→h6 (n'+10)=some (.cells [[.int .i64 kU,trU,.bool sbU,.int .i64 0,.int .u32 0,.nils]])→EM g bE bM gp h6 n1→(kU=4∨(kU=1∧trU=.ro (A.map eIn)∧OkA g T ST L))→K t6 h6 n6:=by
        intro t6 h6 n6 kU trU sbU v1 ⟨w5,w8,w11,w13,w15⟩ w8' w13' w6 wU;refine hK _ _ _ ?_;clear hK;refine W.rseq (k:=12) rfl fun K hK=>?_;simp only[go_sem,w5,w11]
        refine VCall.heap (fz15 hgS hck (w6.next (Nat.le_refl _) (fun y hy=>rfl)) (by omega) T dfit hTl24 ST hST) fun r h7 n7 ⟨s0,s1,s2,s3⟩=>?_
        have k87:=(s3 b8 (by omega) hE8 hM8).trans w8';have k137:=(s3 (n'+10) (by omega) (by omega) (by omega)).trans w13'
        have nxS:∀(t8:Fr) (h8:Heap) (n8:Nat) (kS:Int) (trS:AV) (sbS:Bool),n7≤n8→(t8 8=.ptr b8 0 0∧t8 13=.ptr (n'+10) 0 0∧t8 15=.int .i64 0∧t8 16=.ptr (n6+7) 0 0∧t8 18=.int .i64 0)→h8 b8=some (.cells [[.int .i64 k,.ro (A.map eIn),.bool sb,.int .i64 a',.int .u32 N',ev]])→h8 (n'+10)=some (.cells [[.int .i64 kU,trU,.bool sbU,.int .i64 0,.int .u32 0,.nils]])→h8 (n6+7)=some (.cells [[.int .i64 kS,trS,.bool sbS,.int .i64 0,.int .u32 0,.nils]])→(kU=1→kS=1)→K t8 h8 n8:=by
         intro t8 h8 n8 kS trS sbS c1 ⟨c8,c13,c15,c16,c18⟩ c2 c3 c4 c5;refine hK _ _ _ ?_;clear hK;have y8:∀j,¬b8=n8+j:=fun j=>by omega
         have y13:∀j,¬n'+10=n8+j:=fun j=>by omega
         have y16:∀j,¬n6+7=n8+j:=fun j=>by omega
         rcases wU with rfl|⟨rfl,rfl,hok⟩
         ·refine W.seq ?_;refine W.rseq (k:=11) rfl fun K hK=>?_;simp only[go_sem,c15,c18,c13,c3,y13];refine hK _ _ _ ?_;clear hK K;refine W.condT (by simp only[go_sem]) ?_;refine W.rseq (k:=7) rfl fun K hK=>?_;simp only[go_sem,c15,c18];refine hK _ _ _ ?_;clear hK K;refine W.ret ?_;simp only[go_sem]
         ·obtain rfl:=c5 rfl;refine W.seq ?_;refine W.rseq (k:=11) rfl fun K hK=>?_;simp only[go_sem,c15,c18,c13,c3,y13];refine hK _ _ _ ?_;clear hK K;refine W.condF (by simp only[go_sem]) ?_;refine W.skip ?_;simp only[go_sem];refine W.rseq (k:=22) rfl fun K hK=>?_;simp only[go_sem,c8,c13,c16,c2,c3,c4,y8,y13,y16];refine VCall.frz 6 (fz12 A A (by omega) (by omega)) rfl ?_;simp only[go_sem,beq_self_eq_true A,c8,c13,c16,c2,c3,c4,y8,y13,y16];refine hK _ _ _ ?_
          first|clear hK K|clear hK|skip
          refine W.ret ?_;simp only[go_sem]
        have q7:∀j,¬b8=n6+j:=fun j=>by omega
        have q13:∀j,¬n'+10=n6+j:=fun j=>by omega
        rcases s0 with ⟨q,rfl⟩|⟨l,q1,q2,sS,svS,lvS,g1,rfl⟩|⟨q,_⟩
        ·simp only[go_sem];refine nxS _ _ _ 4 .nils false (by omega) ⟨w8,w13,w15,rfl,rfl⟩ ?_ ?_ ?_ (fun e=>?_)
         ·simp only[go_sem,q7];exact k87
         ·simp only[go_sem,q13];exact k137
         ·simp only[go_sem,show ¬n6+7=n6+8 by omega]
         ·rcases wU with rfl|⟨_,_,q'⟩
          ·cases e
          ·exact absurd q' (q dder L dL)
        ·rcases g1 with ⟨e1',rfl,rfl⟩|⟨rfl,b1',o1',l1',s1',rfl⟩|⟨e1',b1',o1',l1',s1',rfl,rfl⟩
         all_goals
          simp only[go_sem];refine nxS _ _ _ 1 (.ro ((byL g T 0 l).2.map eIn)) sS (by omega) ⟨w8,w13,w15,rfl,rfl⟩ ?_ ?_ ?_ (fun _=>rfl)
          ·simp only[go_sem,q7];exact k87
          ·simp only[go_sem,q13];exact k137
          ·simp only[go_sem,show ¬n6+7=n6+8 by omega]
        ·exact absurd dder q
       have q8:∀j,¬b8=n'+j:=fun j=>by omega
       have mm5:∀(o1 o2 o3 o4:Option AO),EM g bE bM gp (upd (upd (upd (upd h5 (n'+10) o1) (n'+11) o2) (n'+10) o3) (n'+11) o4) n1:=fun o1 o2 o3 o4=>u1.next (Nat.le_refl _) fun y hy=>by
        rw[upd_app,if_neg (by omega),upd_app,if_neg (by omega),upd_app,if_neg (by omega),upd_app,if_neg (by omega)]
       rcases u0 with ⟨q,_⟩|⟨_,q,rfl⟩|⟨_,q,_⟩|⟨_,l,q1,q2,sv,lv,rfl,q3,q4⟩
       ·rcases q with q|q
        ·rw[hfT] at q;cases q
        ·omega
       ·simp only[go_sem];refine nxU _ _ _ 4 .nils false (by omega) ⟨e5,e8,e11,rfl,rfl⟩ ?_ ?_ ?_ (.inl rfl)
        ·simp only[go_sem,q8];exact k85
        ·simp only[go_sem,show ¬n'+10=n'+11 by omega]
        ·exact mm5 _ _ _ _
       ·exact absurd dder q
       ·obtain rfl:=q1.uniq dL
        have hlv:(∃e,sv=.ro e∧lv=.nils)∨(sv=.nils∧∃b o l s,lv=.sl b o l s):=by
         by_cases he:(byL g T 0 l).2=(byL g T 1 l).2
         ·obtain⟨q,q'⟩:=q3 he;exact .inl ⟨_,q,q'⟩
         ·obtain⟨q,b,q',_⟩:=q4 he;exact .inr ⟨q,b,_,_,_,q'⟩
        clear q3 q4;rcases hlv with ⟨es,rfl,rfl⟩|⟨rfl,b,o,l',s',rfl⟩
        all_goals
         simp only[go_sem];refine nxU _ _ _ 1 (.ro (A.map eIn)) (decide ((byL g T 0 l).2=(byL g T 1 l).2)) (by omega) ⟨e5,e8,e11,rfl,rfl⟩ ?_ ?_ ?_ (.inr ⟨rfl,rfl,q2⟩)
         ·simp only[go_sem,q8];exact k85
         ·simp only[go_sem,show ¬n'+10=n'+11 by omega,dA]
         ·exact mm5 _ _ _ _
     clear hK;have z8':∀j,¬b8=n'+j:=fun j=>by omega
     rcases dev with ⟨rfl,rfl,rfl⟩|⟨rfl,hne,rfl⟩
     ·refine W.rseq (k:=12) rfl fun K hK=>?_;simp only[go_sem,e8,k8,z8];refine hK _ _ _ ?_;clear hK K;refine W.condF (by simp only[go_sem]) ?_;refine W.skip ?_;simp only[go_sem]
      exact nx _ _ _ (by omega) ⟨e5,e8,rfl⟩ k8 mm
     ·have hne':((ed.length:Int)=0)=False:=eq_false fun e=>hne (List.length_eq_zero_iff.1 (by omega))
      refine W.rseq (k:=12) rfl fun K hK=>?_;simp only[go_sem,e8,k8,z8,List.length_map,hne'];refine hK _ _ _ ?_;clear hK K;refine W.condF (by simp only[go_sem,hne']) ?_;refine W.skip ?_;simp only[go_sem]
      exact nx _ _ _ (by omega) ⟨e5,e8,rfl⟩ k8 mm
    refine VCall.heap (fz15 hgS hck m1 (by omega) w hf hl24 Sw hSw) fun r h2 n2 ⟨p0,p1,p2,p3⟩=>?_
    have mm2:∀(o1 o2 o3 o4:Option AO),EM g bE bM gp (upd (upd (upd (upd h2 (n1+9) o1) (n1+10) o2) (n1+9) o3) (n1+10) o4) n1:=fun o1 o2 o3 o4=>p1.next (Nat.le_refl _) fun y hy=>by
     rw[upd_app,if_neg (by omega),upd_app,if_neg (by omega),upd_app,if_neg (by omega),upd_app,if_neg (by omega)]
    rcases p0 with ⟨_,rfl⟩|⟨l,q1,q2,sS,svS,lvS,g1,rfl⟩|⟨q,ed,row,l,x1,x2,x3,x4,x5,x6,x7,x8,a,N,svS,lvS,g1,rfl⟩
    ·simp only[go_sem];clear main;refine hK _ _ _ ?_
     first|clear hK K|clear hK|skip
     refine W.seq ?_;refine W.rseq (k:=7) rfl fun K hK=>?_;simp only[go_sem];refine hK _ _ _ ?_;clear hK K;refine W.condT (by simp only[go_sem]) ?_;refine W.rseq (k:=3) rfl fun K hK=>?_;simp only[go_sem];refine hK _ _ _ ?_;clear hK K;refine W.ret ?_;simp only[go_sem]
    ·have hdr:Der g w [⟨true,g.start⟩] 0 w.length:=by
      rcases ends_law hG (by omega) q1 with ⟨q,_⟩|⟨q|⟨_,q⟩,_⟩
      ·rw[q2.1] at q;cases q
      ·rw[q2.1] at q;cases q
      ·have:=(rep_der _ _ _ _ q).2;simpa using this
     rcases g1 with ⟨e1',rfl,rfl⟩|⟨rfl,b1',o1',l1',s1',rfl⟩|⟨e1',b1',o1',l1',s1',rfl,rfl⟩
     all_goals
      simp only[go_sem];refine main _ _ _ (n1+9) 1 0 0 sS .nils [] w _ l (by omega) (by omega) ⟨rfl,rfl,rfl,rfl⟩ ?_ ?_ (.inl ⟨rfl,rfl,rfl⟩) (by simp) rfl (by rw[applF,List.drop_zero]) hf hdr q1 rfl
      ·simp only[go_sem,show ¬n1+9=n1+10 by omega]
      ·exact mm2 _ _ _ _
    ·rcases g1 with ⟨e1',rfl,rfl⟩|⟨rfl,b1',o1',l1',s1',rfl⟩|⟨e1',b1',o1',l1',s1',rfl,rfl⟩
     all_goals
      simp only[go_sem];refine main _ _ _ (n1+9) 3 a N false (.ro (ed.map eEd)) ed row _ l (by omega) (by omega) ⟨rfl,rfl,rfl,rfl⟩ ?_ ?_ (.inr ⟨rfl,x1,rfl⟩) x2 x3 x4 x5 x6 x7 rfl
      ·simp only[go_sem,show ¬n1+9=n1+10 by omega]
      ·exact mm2 _ _ _ _
 ·refine W.seq ?_;refine W.rseq (k:=14) rfl fun K hK=>?_;simp only[go_sem];refine VCall.frz 6 hd13 rfl ?_;try simp only[go_sem];refine hK _ _ _ ?_;clear hK K;refine W.condT (by simp only[go_sem]) ?_;refine W.rseq (k:=1) rfl fun K hK=>?_;simp only[go_sem];refine hK _ _ _ ?_;clear hK K;refine W.ret ?_;simp only[go_sem]
end Go.Av
