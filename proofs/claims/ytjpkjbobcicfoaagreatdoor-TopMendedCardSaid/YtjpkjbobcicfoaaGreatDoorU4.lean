/-
  Texts U1, U2, U3, U4 of this work, one behind the other. Conditions: none.
-/
import Derived.Test.YtjpkjbobcicfoaaGreatDoorC13
set_option linter.unusedSimpArgs false
set_option linter.unusedVariables false
namespace Go.Av
open Go.Proofs
set_option maxRecDepth 100000
attribute [go_sem] eLf eTo aMapUpdate aLookup
def StMem (g:Gr) (lo:Nat) (h:Heap) (n:Nat) (lv:AV) (mb:Nat):Prop:=lo≤mb∧mb<n∧h mb=some (.map ((stepsG g).map ent))∧Uq (stepsG g)∧(stepsG g).length≤480∧SlL eLf 2 h lo n lv (stepsG g)
set_option maxHeartbeats 8000000 in
theorem fz206 (g:Gr) (hg:g.Small) (hr:right g=true) (h:Heap) (n:Nat):FH pg Tq 206 [.agg (eGr g)] h n fun res h' n'=>n≤n'∧(∀x,x<n→h' x=h x)∧∃lv mb,res=.tup [lv,.mp mb]∧StMem g n h' n' lv mb:=by
 obtain⟨⟨hn1,hn2⟩,_,_,hp60,h5⟩:=right_in hr;obtain⟨null,hnull⟩:∃null,null=ranksL g false:=⟨_,rfl⟩;have hnl:(null.length:Int)=g.nons:=by rw[hnull];exact(ranks_fin (terms:=false) hr).1
 have h30:=OwnFc.pf (fz256 g hg);rw[←hnull] at h30;have hsG:stepsG g=stepsF null g.prods.zipIdx:=by rw[stepsG,hnull]
 have zn:∀j,¬n=n+3+j:=fun j=>by omega
 refine FH.of (N:=59) (rs:=#[.tmp 2,.tmp 3]) Tryz.func206 rfl rfl (of_decide_eq_true rfl) rfl (by decide) ?_;refine W.rseq (k:=3) rfl fun K hK=>?_;simp only[go_sem];refine hK _ _ _ ?_;clear hK K;refine W.rseq (k:=3) rfl fun K hK=>?_;simp only[go_sem];refine VCall.frz 6 h30 rfl ?_;try simp only[go_sem];refine hK _ _ _ ?_;clear hK K;refine W.rseq (k:=1) rfl fun K hK=>?_;simp only[go_sem];refine hK _ _ _ ?_;clear hK K
 obtain⟨mb,hmb⟩:∃mb,mb=n+7:=⟨_,rfl⟩;refine W.rseq (k:=2) rfl fun K hK=>?_;simp only[go_sem,Option.isNone_none];refine hK _ _ _ ?_;clear hK K
 have hmn:¬n=mb:=by omega
 refine W.seq ?_;rw[←hmb];refine W.rseq (k:=4) rfl fun K hK=>?_;simp only[go_sem,hmn];refine hK _ _ _ ?_;clear hK K
 refine W.block (W.while (fun m t h1 n1=>∃(i:Nat) (L:List Lf),m=g.prods.length - i∧i≤g.prods.length∧mb<n1∧L.length≤8*i∧L++stepsF null (g.prods.zipIdx.drop i)=stepsG g∧Ahead L i 0∧Uq L∧(∀x,x<n→h1 x=h x)∧h1 n=some (.cells [eGr g])∧h1 mb=some (.map (L.map ent))∧SlL eLf 2 h1 (n+1) n1 (t 5) L∧(t 1=.ptr n 0 0∧t 4=.ro (null.map eFc)∧t 6=.mp mb∧t 16=.ro (g.prods.map ePr)∧t 17=.int .i64 g.prods.length)∧t 18=.int .i64 i) g.prods.length
  ⟨0,[],by simp,by simp,by omega,by simp,by rw[hsG];rfl,(fun y hy=>by cases hy),(fun y hy=>by cases hy),(fun x hx=>by simp only[go_sem,show ¬x=mb by omega,show ¬x=n by omega]),by simp only[go_sem,hmn],by simp only[go_sem,List.map_nil],.inl ⟨rfl,rfl⟩,⟨rfl,rfl,rfl,rfl,rfl⟩,rfl⟩ fun m t h1 n1 ⟨i,L,i1,i2,i3,i4,i5,i6,i7,i8,i9,i10,i11,i12,i13⟩=>?_)
 have i12':=i12;obtain⟨a1,a4,a6,a16,a17⟩:=i12';refine W.rseq (k:=1) rfl fun K hK=>?_;simp only[go_sem,a17,i13];refine hK _ _ _ ?_;clear hK K;refine W.seq ?_
 refine W.cond rfl (fun hc=>?_) fun hc=>?_
 ·refine W.skip ?_;simp only[go_sem];have hi:i<g.prods.length:=by simp at hc;omega
  obtain⟨p,hp⟩:=get_some hi;have hm:p∈g.prods:=List.mem_of_getElem? hp;obtain⟨⟨hl0,hl1⟩,h8,hsy⟩:=h5 p hm;obtain⟨μ,hμ⟩:∃μ:Nat,p.left=μ:=⟨p.left.toNat,by omega⟩;obtain⟨R,hR⟩:∃R,R=stepsF null (g.prods.zipIdx.drop (i+1)):=⟨_,rfl⟩;have hF:stepsF null (g.prods.zipIdx.drop i)=stepsP null i p.left.toNat p.right 0++R:=by rw[zip_drop hp,hR];rfl
  rw[hF,←List.append_assoc] at i5;refine W.seqk fun K hK=>?_
  have nx:∀(t':Fr) (h':Heap) (n':Nat) (L':List Lf) (kk:Nat),mb<n'→L'.length≤8*i+8→L'++R=stepsG g→Ahead L' i kk→Uq L'→(∀x,x<n→h' x=h x)→h' n=some (.cells [eGr g])→h' mb=some (.map (L'.map ent))→SlL eLf 2 h' (n+1) n' (t' 5) L'→(t' 1=.ptr n 0 0∧t' 4=.ro (null.map eFc)∧t' 6=.mp mb∧t' 16=.ro (g.prods.map ePr)∧t' 17=.int .i64 g.prods.length)→t' 18=.int .i64 i→K t' h' n':=by
   intro t' h' n' L' kk e1 e2 e3 e4 e5 e6 e7 e8 e9 e10 e11;refine hK _ _ _ ?_;refine W.region (k:=2) rfl ?_;simp only[go_sem,e11];refine⟨g.prods.length - (i+1),by omega,i+1,L',rfl,by omega,by omega,by omega,by rw[←hR];exact e3,e4.next,e5,fun x hx=>e6 x hx,e7,e8,e9.next rfl (fun x hx hx'=>rfl) (by omega) (Nat.le_refl _),e10, ?_⟩;rw[wrap64 (by omega) (by omega)];rfl
  clear hK;refine W.block ?_;refine W.rseq (k:=6) rfl fun K hK=>?_;simp only[go_sem,a16,i13,hp];refine hK _ _ _ ?_;clear hK K;refine W.rseq (k:=4) rfl fun K hK=>?_;simp only[go_sem];refine hK _ _ _ ?_;clear hK K
  obtain⟨bp,hbp⟩:∃bp,bp=n1+4:=⟨_,rfl⟩;have zn:∀j,¬n=n1+j:=fun j=>by omega
  have zm:∀j,¬mb=n1+j:=fun j=>by omega
  refine W.block (W.while (fun m t h1 n1=>∃(k:Nat) (M:List Lf),m=p.right.length - k∧k≤p.right.length∧bp<n1∧M.length≤8*i+k∧(M++stepsP null i p.left.toNat (p.right.drop k) k)++R=stepsG g∧Ahead M i k∧Uq M∧(∀x,x<n→h1 x=h x)∧h1 n=some (.cells [eGr g])∧h1 mb=some (.map (M.map ent))∧h1 bp=some (.cells [ePr p])∧SlL eLf 2 h1 (n+1) n1 (t 5) M∧(∀b len,t 5=.sl b 0 len 2→b≠bp)∧(t 1=.ptr n 0 0∧t 4=.ro (null.map eFc)∧t 6=.mp mb∧t 16=.ro (g.prods.map ePr)∧t 17=.int .i64 g.prods.length)∧t 18=.int .i64 i∧(t 7=.int .i64 i∧t 8=.ptr bp 0 0∧t 24=.ro (p.right.map eSy)∧t 25=.int .i64 p.right.length)∧t 26=.int .i64 k) p.right.length
   ⟨0,L,by simp,by simp,by omega,by omega,by simpa using i5,i6,i7,(fun x hx=>by simp only[go_sem,show ∀j,¬x=n1+j from fun j=>by omega];exact i8 x hx),by simp only[go_sem,zn,i9],by simp only[go_sem,zm,i10],by simp only[go_sem,hbp],i11.next rfl (fun x hx hx'=>by simp only[go_sem,show ∀j,¬x=n1+j from fun j=>by omega]) (by omega) (Nat.le_refl _), ?_,i12,i13,⟨rfl,by rw[hbp];rfl,rfl,rfl⟩,rfl⟩ fun m t h1 n1 ⟨k,M,k1,k2,k3,k4,k5,k6,k7,k8,k9,k10,k11,k12,k13,k14,k15,k16,k17⟩=>?_)
  ·intro b len hb;have hb2:t 5=.sl b 0 len 2:=hb;rcases i11 with ⟨_,e⟩|⟨b',e,_,hb',_⟩
   ·rw[e] at hb2;cases hb2
   ·rw[e] at hb2;cases hb2;omega
  clear zn zm a1 a4 a6 a16 a17;have k14':=k14;have k16':=k16;obtain⟨a1,a4,a6,a16,a17⟩:=k14';obtain⟨a7,a8,a24,a25⟩:=k16';refine W.rseq (k:=1) rfl fun K hK=>?_;simp only[go_sem,a25,k17];refine hK _ _ _ ?_;clear hK K;refine W.seq ?_
  refine W.cond rfl (fun hc2=>?_) fun hc2=>?_
  ·refine W.skip ?_;simp only[go_sem];have hk:k<p.right.length:=by simp at hc2;omega
   obtain⟨sy,hs⟩:=get_some hk;have hsm:=List.mem_of_getElem? hs
   have hsd:p.right.drop k=sy::p.right.drop (k+1):=by
    rw[List.drop_eq_getElem_cons hk]
    congr 1
    exact(List.getElem_eq_iff hk).2 hs
   rw[hsd,stepsP] at k5;have zn:∀j,¬n=n1+j:=fun j=>by omega
   have zm:∀j,¬mb=n1+j:=fun j=>by omega
   have zp:∀j,¬bp=n1+j:=fun j=>by omega
   refine W.seqk fun K hK=>?_
   have nx2:∀(t':Fr) (h':Heap) (n':Nat) (M':List Lf),n1≤n'→M'.length≤8*i+(k+1)→(M'++stepsP null i p.left.toNat (p.right.drop (k+1)) (k+1))++R=stepsG g→Ahead M' i (k+1)→Uq M'→(∀x,x<n→h' x=h x)→h' n=some (.cells [eGr g])→h' mb=some (.map (M'.map ent))→h' bp=some (.cells [ePr p])→SlL eLf 2 h' (n+1) n' (t' 5) M'→(∀b len,t' 5=.sl b 0 len 2→b≠bp)→(t' 1=.ptr n 0 0∧t' 4=.ro (null.map eFc)∧t' 6=.mp mb∧t' 16=.ro (g.prods.map ePr)∧t' 17=.int .i64 g.prods.length)→t' 18=.int .i64 i→(t' 7=.int .i64 i∧t' 8=.ptr bp 0 0∧t' 24=.ro (p.right.map eSy)∧t' 25=.int .i64 p.right.length)→t' 26=.int .i64 k→K t' h' n':=by
    intro t' h' n' M' e1 e4 e5 e6 e7 e8 e9 e10 e11 e12 e13 e14 e15 e16 e17;refine hK _ _ _ ?_;refine W.region (k:=2) rfl ?_;simp only[go_sem,e17];refine⟨p.right.length - (k+1),by omega,k+1,M',rfl,by omega,by omega,e4,by simpa using e5,e6,e7,fun x hx=>e8 x hx,e9,e10,e11,e12.next rfl (fun x hx hx'=>rfl) (by omega) (Nat.le_refl _),e13,e14,e15,e16, ?_⟩;rw[wrap64 (by omega) (by omega)];rfl
   clear hK;refine W.block ?_;refine W.rseq (k:=6) rfl fun K hK=>?_;simp only[go_sem,a24,k17,hs];refine hK _ _ _ ?_;clear hK K;refine W.seq ?_;refine W.rseq (k:=3) rfl fun K hK=>?_;simp only[go_sem];refine hK _ _ _ ?_;clear hK K
   cases hn:sy.non
   ·rw[hn] at k5;simp only[Bool.false_eq_true,if_false,List.append_nil] at k5;refine W.condT (by simp only[go_sem,hn]) ?_;refine W.exit ?_;simp only[go_sem];exact nx _ _ _ M k (by omega) (by omega) k5 k6 k7 (fun x hx=>by simp only[go_sem,show ∀j,¬x=n1+j from fun j=>by omega];exact k8 x hx) (by simp only[go_sem,zn,k9]) (by simp only[go_sem,zm,k10]) (k12.next rfl (fun x hx hx'=>by simp only[go_sem,show ∀j,¬x=n1+j from fun j=>by omega]) (by omega) (Nat.le_refl _)) k14 k15
   rw[hn] at k5;simp only[if_true] at k5;refine W.condF (by simp only[go_sem,hn]) ?_;refine W.skip ?_;simp only[go_sem];have hsy2:=hsy sy hsm;rw[hn,if_pos rfl] at hsy2;obtain⟨ν,hν⟩:∃ν:Nat,sy.n=ν:=⟨sy.n.toNat,by omega⟩;have hμt:p.left.toNat=μ:=by omega
   have hνt:sy.n.toNat=ν:=by omega
   rw[hμt,hνt] at k5;rw[hμt] at nx2;obtain⟨x,hx⟩:∃x:Lf,x=⟨i,k,μ,ν⟩:=⟨_,rfl⟩;have hxe:eLf x=[.int .i64 i,.int .i64 k]:=by rw[hx];rfl
   have hxp:x.prod=i:=by rw[hx]
   have hxd:x.dot=k:=by rw[hx]
   rw[←hx] at k5;have hfn:=find_no (x:=x) M (by rw[hxp,hxd];exact k6);have hky:=key_lf (x:=x);rw[hxe] at hfn hky;have hME:(M++[x]).map ent=M.map ent++[(.agg [.int .i64 i,.int .i64 k],.agg [.int .i64 μ,.int .i64 ν])]:=by rw[List.map_append,hx];rfl
   have hML:(M++[x]).map eLf=M.map eLf++[[.int .i64 i,.int .i64 k]]:=by rw[List.map_append,hx];rfl
   have hUq:Uq (M++[x]):=k7.snoc (by rw[hxp,hxd];exact k6)
   have hAh:Ahead (M++[x]) i (k+1):=by
    have:=Ahead.snoc (x:=x) (by rw[hxp,hxd];exact k6);rwa[hxp,hxd] at this
   refine W.rseq (k:=5) rfl fun K hK=>?_;simp only[go_sem,a7];refine hK _ _ _ ?_;clear hK K;refine W.rseq (k:=5) rfl fun K hK=>?_
   have nx3:∀(t':Fr) (h':Heap) (n':Nat),n1+18<n'→(∀x,x<n→h' x=h x)→h' n=some (.cells [eGr g])→h' mb=some (.map (M.map ent))→h' bp=some (.cells [ePr p])→h' (n1+4)=some (.cells [eSy sy])→h' (n1+13)=some (.cells [[.int .i64 i,.int .i64 k]])→SlL eLf 2 h' (n+1) n' (t' 5) (M++[x])→(∀b len,t' 5=.sl b 0 len 2→b≠bp)→(t' 1=.ptr n 0 0∧t' 4=.ro (null.map eFc)∧t' 6=.mp mb∧t' 16=.ro (g.prods.map ePr)∧t' 17=.int .i64 g.prods.length)→t' 18=.int .i64 i→(t' 7=.int .i64 i∧t' 8=.ptr bp 0 0∧t' 24=.ro (p.right.map eSy)∧t' 25=.int .i64 p.right.length)→t' 26=.int .i64 k→t' 10=.ptr (n1+4) 0 0→t' 11=.ptr (n1+13) 0 0→K t' h' n':=by
    intro t h' n' e0 e1 e2 e3 e4 e5 e6 e7 e8 e9 e10 e11 e12 e13 e14;have e9':=e9;have e11':=e11;obtain⟨b1,b4,b6,b16,b17⟩:=e9';obtain⟨b7,b8,b24,b25⟩:=e11';refine hK _ _ _ ?_;clear hK;have y1:¬n1+4=mb:=by omega
    have y2:¬n1+13=mb:=by omega
    refine W.rseq (k:=8) rfl fun K hK=>?_;simp only[go_sem,b6,b8,e13,e14,e3,e4,e5,e6,hμ,hν,hky,hfn];refine hK _ _ _ ?_;clear hK K
    obtain⟨bb,hbb⟩:=fc_get (l:=null) (n:=(ν:Int)) (by omega) (by omega);rw[Int.toNat_natCast] at hbb;refine W.rseq (k:=7) rfl fun K hK=>?_;simp only[go_sem,b4,e13,e5,y1,hν,hbb];refine hK _ _ _ ?_;clear hK K
    have hblk:SlL eLf 2 (upd h' mb (some (.map (M.map ent++[(.agg [.int .i64 i,.int .i64 k],.agg [.int .i64 μ,.int .i64 ν])])))) (n+1) (n'+8+7) (t 5) (M++[x]):=by
     rcases e7 with e7|⟨b,q1,q2,q3,q4⟩
     ·exact .inl e7
     ·have hbm:¬b=mb:=fun e=>by rw[e,e3] at q4;cases q4
      exact .inr ⟨b,q1,q2,by omega,by simp only[go_sem,hbm,q4]⟩
    by_cases hz:rk null ν=0
    ·rw[hν,if_pos hz] at k5;refine W.condT (by simp only[go_sem,hz]) ?_;refine W.exit ?_;simp only[go_sem];exact nx _ _ _ (M++[x]) (k+1) (by omega) (by simp;omega) k5 hAh hUq (fun y hy=>by simp only[go_sem,show ¬y=mb by omega];exact e1 y hy) (by simp only[go_sem,hmn,e2]) (by rw[hME];simp only[go_sem]) hblk e9 e10
    ·rw[hν,if_neg hz] at k5;refine W.condF (by simp only[go_sem,show decide (rk null ν=0)=false from decide_eq_false hz]) ?_;refine W.skip ?_;simp only[go_sem];exact nx2 _ _ _ (M++[x]) (by omega) (by simp;omega) (by simpa using k5) hAh hUq (fun y hy=>by simp only[go_sem,show ¬y=mb by omega];exact e1 y hy) (by simp only[go_sem,hmn,e2]) (by rw[hME];simp only[go_sem]) (by simp only[go_sem,show ¬bp=mb by omega,e4]) hblk e8 e9 e10 e11 e12
   clear hK;have y3:¬n1+13=n1+4:=by omega
   rcases k12 with ⟨w0,w5⟩|⟨b,w5,w1,w2,w3⟩
   ·simp only[go_sem,w5,ne_eq,not_false_eq_true,Int.reduceEq,show(0:Nat)<1 by omega,show(0:Nat)<2 by omega,show(0:Nat)<16 by omega];refine nx3 _ _ _ (by omega) (fun y hy=>by simp only[go_sem,show ∀j,¬y=n1+j from fun j=>by omega];exact k8 y hy) (by simp only[go_sem,zn,k9]) (by simp only[go_sem,zm,k10]) (by simp only[go_sem,zp,k11]) (by simp only[go_sem,hn]) (by simp only[go_sem]) (.inr ⟨n1+18,by rw[w0];rfl,by omega,by omega,by rw[hML,w0];simp only[go_sem];rfl⟩) (fun b len hb=>by cases hb;omega) k14 k15 k16 k17 rfl rfl
   ·have zb:∀j,¬b=n1+j:=fun j=>by omega
    have hbm:¬b=mb:=fun e=>by rw[e,k10] at w3;cases w3
    have hbp2:b≠bp:=k13 b _ w5;simp only[go_sem,w5,w3,zb,Nat.lt_irrefl,and_false,if_false,ne_eq,not_false_eq_true,Int.reduceEq,show(0:Nat)<1 by omega,show(0:Nat)<2 by omega,show(0:Nat)<16 by omega,show(M.length+1)*16≤140737488355328 by omega];refine nx3 _ _ _ (by omega) (fun y hy=>by simp only[go_sem,show ∀j,¬y=n1+j from fun j=>by omega,show ¬y=b by omega];exact k8 y hy) (by simp only[go_sem,zn,show ¬n=b by omega,k9]) (by simp only[go_sem,zm,show ¬mb=b from fun e=>hbm e.symm,k10]) (by simp only[go_sem,zp,show ¬bp=b from fun e=>hbp2 e.symm,k11]) (by simp only[go_sem,show ¬n1+4=b by omega,hn]) (by simp only[go_sem,show ¬n1+13=b by omega]) (.inr ⟨n1+18,by rw[List.length_append];rfl,by omega,by omega,by rw[hML];simp only[go_sem]⟩) (fun b len hb=>by cases hb;omega) k14 k15 k16 k17 rfl rfl
  ·refine W.exit ?_;simp only[go_sem];have hk:k=p.right.length:=by simp at hc2;omega
   subst hk;rw[List.drop_length,stepsP,List.append_nil] at k5;exact nx _ _ _ M _ (by omega) (by omega) k5 k6 k7 (fun x hx=>k8 x hx) k9 k10 (k12.next rfl (fun x hx hx'=>rfl) (by omega) (Nat.le_refl _)) k14 k15
 ·refine W.exit ?_;simp only[go_sem];have hi:i=g.prods.length:=by simp at hc;omega
  subst hi;have hz:g.prods.zipIdx.drop g.prods.length=[]:=List.drop_eq_nil_of_le (by simp);rw[hz,stepsF,List.flatMap_nil,List.append_nil] at i5;refine W.rseq (k:=4) rfl fun K hK=>?_;simp only[go_sem,a6];refine hK _ _ _ ?_;clear hK K;refine W.ret ?_;simp only[go_sem]
  refine⟨by omega,fun x hx=>i8 x hx,_,mb,rfl,by omega,by omega,by rw[i10,i5],by rw[←i5];exact i7,by rw[←i5];omega, ?_⟩;rw[←i5];exact i11.next rfl (fun x hx hx'=>rfl) (by omega) (by omega)
end Go.Av
namespace Go.Av
open Go.Proofs
set_option maxRecDepth 100000
theorem aw_start {L:List Lf} {M to:Nat} (h:to<M):Aw L M to ((List.replicate M (-1)).set to 0):=by
 have hl:to<(List.replicate M (-1:Int)).length:=by simpa using h
 have hr:∀n,(List.replicate M (-1:Int)).getD n (-1)= -1:=fun n=>by
  rw[List.getD_eq_getElem?_getD,List.getElem?_replicate];split<;>rfl
 have hc:((List.replicate M (-1:Int)).set to 0).countP (fun d=>decide (0≤d))=1:=by
  rw[countP_set hl (by simp),hr,List.countP_replicate];simp
 refine⟨by simp, ?_,fun n=>?_,fun n=>?_,fun n=>?_,fun n=>?_⟩
 ·rw[getD_set hl,if_pos rfl]
 ·rw[getD_set hl,hr];split<;>omega
 ·rw[getD_set hl,hr];split
  ·intro _;assumption
  ·intro h;omega
 ·rw[getD_set hl,hr,hc];split<;>omega
 ·rw[getD_set hl,hr];split<;>omega
theorem getI_some {a:List Int} {n:Nat} (h:n<a.length):a[n]?=some (a.getD n (-1)):=by simp[h]
theorem aw_lt {L:List Lf} {M to:Nat} {a:List Int} (h:Aw L M to a) (n:Nat):a.getD n (-1)<M:=by
 have:=h.cnt n;have h2:a.countP (fun d=>decide (0≤d))≤M:=by rw[←h.len];exact List.countP_le_length
 omega
theorem map_setI {a:List Int} {i:Nat} {v:Int}:(a.map eIn).set i [.int .i64 v]=(a.set i v).map eIn:=(List.map_set (f:=eIn)).symm
theorem SlL.len {α:Type} {e:α→List AV} {sz lo:Nat} {h:Heap} {n:Nat} {v:AV} {l:List α} (s:SlL e sz h lo n v l):(∀h' n0,aLen h' n0 v=some (.P,.int .i64 l.length,[]))∧∀a b p q k z o c d,lenT ⟨a,b,.slice p q k,z,o,c,d⟩ v=true:=by
 rcases s with ⟨rfl,rfl⟩|⟨b,rfl,_⟩
 ·exact⟨fun _ _=>rfl,fun _ _ _ _ _ _ _ _ _=>rfl⟩
 ·exact⟨fun _ _=>rfl,fun _ _ _ _ _ _ _ _ _=>rfl⟩
set_option maxHeartbeats 8000000 in
theorem fz207 (g:Gr) (hg:g.Small) (hr:right g=true) (to:Nat) (hto:to<g.nons.toNat) (lo:Nat) (h:Heap) (n:Nat) (lv:AV) (mb:Nat) (hS:StMem g lo h n lv mb):FH pg Tq 207 [.agg (eGr g),.int .i64 to,lv,.mp mb] h n fun res h' n'=>n≤n'∧(∀x,x<n→h' x=h x)∧∃a B,Aw (stepsG g) g.nons.toNat to a∧AwCl (stepsG g) a∧res=.sl B 0 g.nons.toNat 1∧n≤B∧B<n'∧h' B=some (.cells (a.map eIn)):=by
 obtain⟨⟨hn1,hn2⟩,_,_,hp60,h5⟩:=right_in hr;have hLin:=steps_in hr;obtain⟨M,hM⟩:∃M,M=g.nons.toNat:=⟨_,rfl⟩;have hMn:g.nons=(M:Int):=by omega
 obtain⟨L,hL⟩:∃L,L=stepsG g:=⟨_,rfl⟩;obtain⟨s1,s2,s3,hUq,hLl,s4⟩:=hS;rw[←hM] at hto hLin ⊢;rw[←hL] at hLin s3 s4 hUq hLl ⊢;have hlen:=s4.len;obtain⟨B,hB⟩:∃B,B=n+4:=⟨_,rfl⟩;have znB:¬n=B:=by omega
 have zmn:¬mb=n:=by omega
 have zmB:¬mb=B:=by omega
 refine FH.of (N:=74) (rs:=#[.tmp 8]) Tryz.func207 rfl rfl (of_decide_eq_true rfl) rfl (by decide) ?_;refine W.rseq (k:=2) rfl fun K hK=>?_;simp only[go_sem];refine hK _ _ _ ?_;clear hK K;refine W.rseq (k:=4) rfl fun K hK=>?_;simp only[go_sem,hMn,show(0:Int)≤(M:Int) by omega,show(M:Int)*8≤140737488355328 by omega,show(0:Nat)<8 by omega,show(0:Nat)<1 by omega];refine hK _ _ _ ?_;clear hK K;refine W.seq ?_;refine W.rseq (k:=3) rfl fun K hK=>?_;simp only[go_sem];refine hK _ _ _ ?_;clear hK K
 rw[←hB]
 refine W.block (W.while (fun m t h1 n1=>∃(i:Nat) (c:List Int),m=M - i∧i≤M∧B<n1∧(∀x,x<n→h1 x=h x)∧c.length=M∧(∀j,j<i→c[j]?=some (-1))∧h1 B=some (.cells (c.map eIn))∧(t 1=.int .i64 to∧t 2=lv∧t 3=.mp mb∧t 9=.sl B 0 M 1)∧t 20=.int .i64 M∧t 21=.int .i64 i) M
  ⟨0,List.replicate M 0,by simp,by simp,by omega,fun x hx=>by simp only[go_sem,show ¬x=n by omega,show ¬x=B by omega],by simp,fun j hj=>by omega,by simp[upd,eIn],⟨rfl,rfl,rfl,by simp only[go_sem,hB]⟩,by simp only[go_sem,hMn],rfl⟩ fun m t h1 n1 ⟨i,c,i1,i2,i3,i4,i5,i5',i6,i7,i8,i9⟩=>?_)
 refine W.rseq (k:=1) rfl fun K hK=>?_;simp only[go_sem,i8,i9];refine hK _ _ _ ?_;clear hK K;refine W.seq ?_
 refine W.cond rfl (fun hc=>?_) fun hc=>?_
 ·refine W.skip ?_;simp only[go_sem];have hi:i<M:=by simp at hc;omega
  have i7':=i7;obtain⟨a1,a2,a3,a9⟩:=i7';obtain⟨z,hz⟩:=get_some (l:=c) (k:=i) (by omega);refine W.seq (W.block ?_);refine W.rseq (k:=2) rfl fun K hK=>?_;simp only[go_sem,i9];refine hK _ _ _ ?_;clear hK K;refine W.region (k:=4) rfl ?_;simp only[go_sem,a9,i6,hz,eIn,show(i:Int)<(M:Int) by omega];refine W.region (k:=2) rfl ?_;simp only[go_sem,i9]
  refine⟨M - (i+1),by omega,i+1,c.set i (-1),rfl,by omega,by omega,fun x hx=>by simp only[go_sem,show ¬x=B by omega];exact i4 x hx,by simpa using i5,fun j hj=>?_,by rw[←map_setI],i7,i8, ?_⟩
  ·rw[List.getElem?_set];split
   ·rename_i e
    subst e;rw[if_pos (by omega)]
   ·exact i5' j (by omega)
  ·rw[wrap64 (by omega) (by omega)];rfl
 ·refine W.exit ?_;simp only[go_sem];have hi:i=M:=by simp at hc;omega
  subst hi
  have hc':c=List.replicate i (-1):=by
   refine List.ext_getElem? fun j=>?_
   rw[List.getElem?_replicate];split
   ·exact i5' j (by assumption)
   ·exact List.getElem?_eq_none (by omega)
  have i7':=i7;obtain⟨a1,a2,a3,a9⟩:=i7';obtain⟨z,hz⟩:=get_some (l:=c) (k:=to) (by omega);refine W.rseq (k:=4) rfl fun K hK=>?_;simp only[go_sem,a1,a9,i6,hz,eIn,show(to:Int)<(i:Int) by omega];refine hK _ _ _ ?_;clear hK K;refine W.seqk fun K hK=>?_;refine W.rseq (k:=1) rfl fun K hK=>?_;simp only[go_sem];refine hK _ _ _ ?_;clear hK K
  have aw0:=aw_start (L:=L) hto;rw[←hc'] at aw0
  have nx:∀(t':Fr) (h':Heap) (n':Nat) (a:List Int),B<n'→(∀x,x<n→h' x=h x)→h' B=some (.cells (a.map eIn))→t' 9=.sl B 0 i 1→Aw L i to a→AwCl L a→K t' h' n':=by
   intro t' h' n' a e1 e2 e3 e4 e5 e6;refine hK _ _ _ ?_;refine W.rseq (k:=2) rfl fun K hK=>?_;simp only[go_sem,e4];refine hK _ _ _ ?_;clear hK K;refine W.ret ?_;simp only[go_sem]
   exact⟨by omega,e2,a,B,e5,e6,rfl,by omega,by omega,e3⟩
  clear hK
  refine W.block (W.while (fun m t h1 n1=>∃(more:Bool) (a:List Int),m=2*awM i a+(if more=true then 1 else 0)∧Aw L i to a∧(more=false→AwCl L a)∧B<n1∧(∀x,x<n→h1 x=h x)∧h1 B=some (.cells (a.map eIn))∧(t 2=lv∧t 3=.mp mb∧t 9=.sl B 0 i 1)∧t 11=.bool more) (2*awM i (c.set to 0)+1)
   ⟨true,c.set to 0,by simp,aw0,(fun e=>by cases e),by omega,fun x hx=>by simp only[go_sem,show ¬x=B by omega];exact i4 x hx,by simp only[go_sem];rw[←map_setI],⟨a2,a3,a9⟩,rfl⟩ fun m t h1 n1 ⟨more,a,k1,k2,k3,k4,k5,k6,k7,k8⟩=>?_)
  clear a1 a2 a3 a9;have k7':=k7;obtain⟨a2,a3,a9⟩:=k7';refine W.seq ?_;refine W.rseq (k:=1) rfl fun K hK=>?_;simp only[go_sem,k8];refine hK _ _ _ ?_;clear hK K
  cases hmo:more
  ·refine W.condF (by simp only[go_sem,hmo]) ?_;refine W.exit ?_;simp only[go_sem];exact nx _ _ _ a (by omega) k5 k6 a9 k2 (k3 hmo)
  refine W.condT (by simp only[go_sem,hmo]) ?_;refine W.skip ?_;simp only[go_sem];rw[hmo] at k1;simp only[if_true] at k1;refine W.block ?_;refine W.rseq (k:=1) rfl fun K hK=>?_;simp only[go_sem];refine hK _ _ _ ?_;clear hK K;refine W.rseq (k:=3) rfl fun K hK=>?_
  have nx1:∀(t':Fr) (n':Nat),B<n'→(t' 2=lv∧t' 3=.mp mb∧t' 9=.sl B 0 i 1∧t' 32=lv∧t' 33=.int .i64 L.length)→t' 34=.int .i64 0→t' 11=.bool false→K t' h1 n':=by
   intro t' n' e1 e2 e3 e4;refine hK _ _ _ ?_;clear hK K
   refine W.block (W.while (fun m2 t h1 n1=>∃(j:Nat) (more:Bool) (a:List Int),m2=L.length - j∧j≤L.length∧Aw L i to a∧(more=true→2*awM i a+1<m)∧(more=false→2*awM i a<m∧AwCl (L.take j) a)∧B<n1∧(∀x,x<n→h1 x=h x)∧h1 B=some (.cells (a.map eIn))∧(t 2=lv∧t 3=.mp mb∧t 9=.sl B 0 i 1∧t 32=lv∧t 33=.int .i64 L.length)∧t 34=.int .i64 j∧t 11=.bool more) L.length
    ⟨0,false,a,by simp,by simp,k2,(fun e=>by cases e),(fun _=>⟨by omega,fun x hx=>by cases hx⟩),e1,k5,k6,e2,e3,e4⟩ fun m2 t h1 n1 ⟨j,more,a,m1,m2,m3,m4,m5,m6,m7,m8,m9,m10,m11⟩=>?_)
   clear e2 e3 e4;have m9':=m9;obtain⟨a2,a3,a9,a32,a33⟩:=m9';refine W.rseq (k:=1) rfl fun K hK=>?_;simp only[go_sem,a33,m10];refine hK _ _ _ ?_;clear hK K;refine W.seq ?_
   refine W.cond rfl (fun hc2=>?_) fun hc2=>?_
   ·refine W.skip ?_;simp only[go_sem];have hj:j<L.length:=by simp at hc2;omega
    obtain⟨x,hx⟩:=get_some hj;have hxm:=List.mem_of_getElem? hx;rcases s4 with ⟨e,_⟩|⟨b,hb,b1,b2,b3⟩
    ·rw[e] at hj;cases hj
    have hbx:=m7 b b2;rw[b3] at hbx;have hmbx:=m7 mb s2;rw[s3] at hmbx;obtain⟨hfx,htx⟩:=hLin x hxm;have hfy:=find_yes L hUq hxm;have hky:=key_lf (x:=x);have el:eLf x=[.int .i64 x.prod,.int .i64 x.dot]:=rfl;rw[el] at hfy hky;have hal:a.length=i:=m3.len;obtain⟨d,hd⟩:∃d,d=a.getD x.to (-1):=⟨_,rfl⟩;obtain⟨f,hf⟩:∃f,f=a.getD x.frm (-1):=⟨_,rfl⟩;have had:a[x.to]?=some d:=by rw[hd];exact getI_some (by omega)
    have haf:a[x.frm]?=some f:=by rw[hf];exact getI_some (by omega)
    have hdl:=aw_lt m3 x.to;rw[←hd] at hdl;have hdl0:=m3.low x.to;rw[←hd] at hdl0;have ht1:L.take (j+1)=L.take j++[x]:=by rw[List.take_add_one,hx];rfl
    refine W.seqk fun K hK=>?_
    have nx2:∀(t':Fr) (h':Heap) (n':Nat) (more:Bool) (a:List Int),Aw L i to a→(more=true→2*awM i a+1<m)→(more=false→2*awM i a<m∧AwCl (L.take (j+1)) a)→B<n'→(∀x,x<n→h' x=h x)→h' B=some (.cells (a.map eIn))→(t' 2=lv∧t' 3=.mp mb∧t' 9=.sl B 0 i 1∧t' 32=lv∧t' 33=.int .i64 L.length)→t' 34=.int .i64 j→t' 11=.bool more→K t' h' n':=by
     intro t' h' n' more a e1 e2 e3 e4 e5 e6 e7 e8 e9;refine hK _ _ _ ?_;refine W.region (k:=2) rfl ?_;simp only[go_sem,e8];refine⟨L.length - (j+1),by omega,j+1,more,a,rfl,by omega,e1,e2,e3,by omega,e5,e6,e7, ?_,e9⟩;rw[wrap64 (by omega) (by omega)];rfl
    clear hK;refine W.block ?_;have zbn:∀j,¬b=n1+j:=fun j=>by omega
    have zmn:∀j,¬mb=n1+j:=fun j=>by omega
    have zBn:∀j,¬B=n1+j:=fun j=>by omega
    refine W.rseq (k:=4) rfl fun K hK=>?_;simp only[go_sem,a32,hb,m10,hbx,hx,show(j:Int)<(L.length:Int) by omega];refine hK _ _ _ ?_;clear hK K;refine W.rseq (k:=5) rfl fun K hK=>?_;simp only[go_sem,hmbx,hky,hfy,zmn,a3];refine hK _ _ _ ?_;clear hK K;refine W.rseq (k:=6) rfl fun K hK=>?_;simp only[go_sem,a9,m8,had,zBn,eIn,show(x.to:Int)<(i:Int) by omega];refine hK _ _ _ ?_;clear hK K;refine W.rseq (k:=20) rfl fun K hK=>?_
    have no:∀(t':Fr) (h':Heap) (n':Nat),B<n'→(∀x,x<n→h' x=h x)→h' B=some (.cells (a.map eIn))→(t' 2=lv∧t' 3=.mp mb∧t' 9=.sl B 0 i 1∧t' 32=lv∧t' 33=.int .i64 L.length)→t' 34=.int .i64 j→t' 11=.bool more→t' 65=.bool false→¬(0≤d∧(f<0∨d+1<f))→K t' h' n':=by
     intro t' h' n' e1 e2 e3 e4 e5 e6 e7 e8;refine hK _ _ _ ?_;refine W.condF (by simp only[go_sem,e7]) ?_;refine W.skip ?_;simp only[go_sem];refine nx2 _ _ _ more a m3 m4 (fun e=>⟨(m5 e).1, ?_⟩) e1 e2 e3 e4 e5 e6;rw[ht1];intro y hy h0;rcases List.mem_append.1 hy with hy|hy
     ·exact(m5 e).2 y hy h0
     ·rw[List.mem_singleton.1 hy,←hd] at h0;rw[List.mem_singleton.1 hy,←hd,←hf];omega
    have yes:∀(t':Fr) (h':Heap) (n':Nat),B<n'→(∀x,x<n→h' x=h x)→h' B=some (.cells (a.map eIn))→h' (n1+8)=some (.cells [eTo x])→(t' 2=lv∧t' 3=.mp mb∧t' 9=.sl B 0 i 1∧t' 32=lv∧t' 33=.int .i64 L.length)→t' 34=.int .i64 j→t' 14=.ptr (n1+8) 0 0→t' 15=.int .i64 d→t' 65=.bool true→0≤d→(f<0∨d+1<f)→K t' h' n':=by
     intro t' h' n' e1 e2 e3 e3' e4 e5 e6 e6' e7 e8 e9;refine hK _ _ _ ?_;refine W.condT (by simp only[go_sem,e7]) ?_;have e4':=e4;obtain⟨a2,a3,a9,a32,a33⟩:=e4';refine W.rseq (k:=7) rfl fun K hK=>?_;simp only[go_sem,a9,e6,e3',e6',e3,haf,eIn,show(x.frm:Int)<(i:Int) by omega];refine hK _ _ _ ?_;clear hK K;refine W.region (k:=1) rfl ?_;simp only[go_sem]
     rw[hd] at e8 e9;rw[hf] at e9;obtain⟨w1,w2⟩:=m3.set hxm hLin e8 e9.symm.symm;rw[←hd] at w1 w2;refine nx2 _ _ _ true (a.set x.frm (d+1)) w1 (fun _=>?_) (fun e=>by cases e) (by omega) (fun x hx=>by simp only[go_sem,show ¬x=B by omega];exact e2 x hx) ?_ e4 e5 rfl
     ·cases hm:more
      ·have:=(m5 hm).1;omega
      ·have:=m4 hm;omega
     ·simp only[go_sem];rw[←map_setI,wrap64 (by omega) (by omega)]
    clear hK;have hxi:(x.frm:Int)<(i:Int):=by omega
    have hw:IntKind.wrap .i64 (d+1)=d+1:=wrap64 (by omega) (by omega);by_cases c1:d≥0
    ·by_cases c2:f<0
     ·simp only[go_sem,a9,m8,haf,zBn,eIn,hxi,decide_eq_true c1,decide_eq_true c2];refine yes _ _ _ (by omega) (fun y hy=>by simp only[go_sem,show ∀j,¬y=n1+j from fun j=>by omega];exact m7 y hy) (by simp only[go_sem,zBn,m8]) (by simp only[go_sem]) m9 m10 rfl rfl rfl c1 (.inl c2)
     ·by_cases c3:f>d+1
      ·simp only[go_sem,a9,m8,haf,zBn,eIn,hxi,decide_eq_true c1,decide_eq_false c2,hw,decide_eq_true c3];refine yes _ _ _ (by omega) (fun y hy=>by simp only[go_sem,show ∀j,¬y=n1+j from fun j=>by omega];exact m7 y hy) (by simp only[go_sem,zBn,m8]) (by simp only[go_sem]) m9 m10 rfl rfl rfl c1 (.inr c3)
      ·simp only[go_sem,a9,m8,haf,zBn,eIn,hxi,decide_eq_true c1,decide_eq_false c2,hw,decide_eq_false c3];refine no _ _ _ (by omega) (fun y hy=>by simp only[go_sem,show ∀j,¬y=n1+j from fun j=>by omega];exact m7 y hy) (by simp only[go_sem,zBn,m8]) m9 m10 m11 rfl (fun e=>by omega)
    ·simp only[go_sem,a9,m8,haf,zBn,eIn,hxi,decide_eq_false c1];refine no _ _ _ (by omega) (fun y hy=>by simp only[go_sem,show ∀j,¬y=n1+j from fun j=>by omega];exact m7 y hy) (by simp only[go_sem,zBn,m8]) m9 m10 m11 rfl (fun e=>by omega)
   ·refine W.exit ?_;simp only[go_sem];have hj:j=L.length:=by simp at hc2;omega
    subst hj;rw[List.take_length] at m5;cases hm:more
    ·refine⟨2*awM i a,(m5 hm).1,false,a,by simp,m3,(fun _=>(m5 hm).2),by omega,m7,m8,⟨a2,a3,a9⟩,by rw[←hm];exact m11⟩
    ·refine⟨2*awM i a+1,m4 hm,true,a,by simp,m3,(fun e=>by cases e),by omega,m7,m8,⟨a2,a3,a9⟩,by rw[←hm];exact m11⟩
  clear hK;rcases s4 with ⟨e,hb⟩|⟨b,hb,b1,b2,b3⟩
  ·simp only[go_sem,a2,hb];refine nx1 _ _ (by omega) ⟨by rw[←hb];exact a2,a3,a9,by rw[←hb];rfl,by rw[e];rfl⟩ rfl rfl
  ·simp only[go_sem,a2,hb];refine nx1 _ _ (by omega) ⟨by rw[←hb];exact a2,a3,a9,by rw[←hb];rfl,rfl⟩ rfl rfl
end Go.Av
namespace Go.Av
open Go.Proofs
set_option maxRecDepth 100000
def Nx (T L:List Lf) (a:List Int) (non:Nat) (x:Lf) (is:Bool):Prop:=
 (is=false→∀y∈T,y.frm=non→a.getD y.to (-1)<0)∧
 (is=true→x∈L∧x.frm=non∧0≤a.getD x.to (-1)∧∀y∈T,y.frm=non→0≤a.getD y.to (-1)→a.getD x.to (-1)≤a.getD y.to (-1))
theorem Nx.old {T L:List Lf} {a:List Int} {non:Nat} {x y:Lf} {is:Bool} (h:Nx T L a non x is) (hy:y.frm=non→a.getD y.to (-1)<0∨(is=true∧a.getD x.to (-1)≤a.getD y.to (-1))):Nx (T++[y]) L a non x is:=by
 refine⟨fun e z hz hf=>?_,fun e=>⟨(h.2 e).1,(h.2 e).2.1,(h.2 e).2.2.1,fun z hz hf h0=>?_⟩⟩
 ·rcases List.mem_append.1 hz with hz|hz
  ·exact h.1 e z hz hf
  ·have hz:=List.mem_singleton.1 hz;subst hz;rcases hy hf with h1|⟨h1,_⟩
   ·exact h1
   ·rw[e] at h1;cases h1
 ·rcases List.mem_append.1 hz with hz|hz
  ·exact(h.2 e).2.2.2 z hz hf h0
  ·have hz:=List.mem_singleton.1 hz;subst hz;rcases hy hf with h1|⟨_,h1⟩
   ·omega
   ·exact h1
theorem Nx.new {T L:List Lf} {a:List Int} {non:Nat} {x y:Lf} {is:Bool} (h:Nx T L a non x is) (hL:y∈L) (hf:y.frm=non) (h0:0≤a.getD y.to (-1)) (hy:is=true→a.getD y.to (-1)≤a.getD x.to (-1)):Nx (T++[y]) L a non y true:=by
 refine⟨fun e=>(by cases e),fun _=>⟨hL,hf,h0,fun z hz hzf hz0=>?_⟩⟩;rcases List.mem_append.1 hz with hz|hz
 ·cases is
  ·have:=h.1 rfl z hz hzf;omega
  ·have:=(h.2 rfl).2.2.2 z hz hzf hz0;have:=hy rfl;omega
 ·rw[List.mem_singleton.1 hz];exact Int.le_refl _
set_option maxHeartbeats 8000000 in
theorem fz208 (g:Gr) (hr:right g=true) (a:List Int) (ha:a.length=g.nons.toNat) (non B lo:Nat) (h:Heap) (n:Nat) (lv:AV) (mb:Nat) (hS:StMem g lo h n lv mb) (hB:h B=some (.cells (a.map eIn))) (hBn:B<n):FH pg Tq 208 [.int .i64 non,.sl B 0 g.nons.toNat 1,lv,.mp mb] h n fun res h' n'=>n≤n'∧(∀x,x<n→h' x=h x)∧∃x is,res=.tup [.agg (eLf x),.bool is]∧Nx (stepsG g) (stepsG g) a non x is:=by
 obtain⟨⟨hn1,hn2⟩,_,_,hp60,h5⟩:=right_in hr;have hLin:=steps_in hr;obtain⟨M,hM⟩:∃M,M=g.nons.toNat:=⟨_,rfl⟩;have hMn:g.nons=(M:Int):=by omega
 obtain⟨L,hL⟩:∃L,L=stepsG g:=⟨_,rfl⟩;obtain⟨s1,s2,s3,hUq,hLl,s4⟩:=hS;rw[←hM] at hLin ha ⊢;rw[←hL] at hLin s3 s4 hUq hLl ⊢;obtain⟨bb,hbb⟩:∃bb,bb=n+3:=⟨_,rfl⟩;have znb:¬n=bb:=by omega
 refine FH.of (N:=59) (rs:=#[.cell 8 317,.tmp 9]) Tryz.func208 rfl rfl (of_decide_eq_true rfl) rfl (by decide) ?_;refine W.rseq (k:=2) rfl fun K hK=>?_;simp only[go_sem];refine hK _ _ _ ?_;clear hK K;refine W.rseq (k:=4) rfl fun K hK=>?_;simp only[go_sem];refine hK _ _ _ ?_;clear hK K;refine W.seqk fun K hK=>?_
 have nx0:∀(t':Fr) (h':Heap) (n':Nat) (x:Lf) (is:Bool),bb<n'→(∀x,x<n→h' x=h x)→h' n=some (.cells [[.int .i64 0,.int .i64 0]])→h' bb=some (.cells [eLf x])→t' 8=.ptr n 0 0→t' 10=.ptr bb 0 0→t' 11=.bool is→Nx L L a non x is→K t' h' n':=by
  intro t' h' n' x is e1 e2 e3 e4 e5 e6 e7 e8;refine hK _ _ _ ?_;refine W.rseq (k:=4) rfl fun K hK=>?_;simp only[go_sem,e6,e4,e5,e3,e7];refine hK _ _ _ ?_;clear hK K;refine W.ret ?_;simp only[go_sem,e5]
  refine⟨by omega,fun y hy=>by simp only[go_sem,show ¬y=n by omega];exact e2 y hy,x,is,rfl,e8⟩
 clear hK;rw[←hbb];refine W.rseq (k:=3) rfl fun K hK=>?_
 have nx1:∀(t':Fr) (h':Heap) (n':Nat),bb<n'→(∀x,x<n→h' x=h x)→h' n=some (.cells [[.int .i64 0,.int .i64 0]])→h' bb=some (.cells [[.int .i64 0,.int .i64 0]])→(t' 0=.int .i64 non∧t' 1=.sl B 0 M 1∧t' 3=.mp mb∧t' 8=.ptr n 0 0∧t' 10=.ptr bb 0 0∧t' 16=lv∧t' 17=.int .i64 L.length)→t' 11=.bool false→t' 18=.int .i64 0→K t' h' n':=by
  intro t' h' n' e1 e2 e3 e4 e5 e6 e7;refine hK _ _ _ ?_;clear hK K
  refine W.block (W.while (fun m t h1 n1=>∃(j:Nat) (is:Bool) (x:Lf),m=L.length - j∧j≤L.length∧Nx (L.take j) L a non x is∧bb<n1∧(∀x,x<n→h1 x=h x)∧h1 n=some (.cells [[.int .i64 0,.int .i64 0]])∧h1 bb=some (.cells [eLf x])∧(t 0=.int .i64 non∧t 1=.sl B 0 M 1∧t 3=.mp mb∧t 8=.ptr n 0 0∧t 10=.ptr bb 0 0∧t 16=lv∧t 17=.int .i64 L.length)∧t 11=.bool is∧t 18=.int .i64 j) L.length
   ⟨0,false,⟨0,0,0,0⟩,by simp,by simp,⟨(fun _ y hy=>by cases hy),(fun e=>by cases e)⟩,e1,e2,e3,e4,e5,e6,e7⟩ fun m t h1 n1 ⟨j,is,bs,m1,m2,m3,m4,m5,m6,m7,m8,m9,m10⟩=>?_)
  clear e5 e6 e7;have m8':=m8;obtain⟨a0,a1,a3,a8,a10,a16,a17⟩:=m8';refine W.rseq (k:=1) rfl fun K hK=>?_;simp only[go_sem,a17,m10];refine hK _ _ _ ?_;clear hK K;refine W.seq ?_
  refine W.cond rfl (fun hc2=>?_) fun hc2=>?_
  ·refine W.skip ?_;simp only[go_sem];have hj:j<L.length:=by simp at hc2;omega
   obtain⟨x,hx⟩:=get_some hj;have hxm:=List.mem_of_getElem? hx;rcases s4 with ⟨e,_⟩|⟨b,hb,b1,b2,b3⟩
   ·rw[e] at hj;cases hj
   have hbx:=m5 b b2;rw[b3] at hbx;have hmbx:=m5 mb s2;rw[s3] at hmbx;have hBx:=m5 B hBn;rw[hB] at hBx;obtain⟨hfx,htx⟩:=hLin x hxm;have hfy:=find_yes L hUq hxm;have hky:=key_lf (x:=x);have hkb:=key_lf (x:=bs);have el:∀x:Lf,eLf x=[.int .i64 x.prod,.int .i64 x.dot]:=fun x=>rfl
   rw[el] at hfy hky hkb;obtain⟨d,hd⟩:∃d,d=a.getD x.to (-1):=⟨_,rfl⟩;obtain⟨f,hf⟩:∃f,f=a.getD bs.to (-1):=⟨_,rfl⟩;have had:a[x.to]?=some d:=by rw[hd];exact getI_some (by omega)
   have ht1:L.take (j+1)=L.take j++[x]:=by rw[List.take_add_one,hx];rfl
   refine W.seqk fun K hK=>?_
   have nx2:∀(t':Fr) (h':Heap) (n':Nat) (is:Bool) (x:Lf),Nx (L.take (j+1)) L a non x is→bb<n'→(∀x,x<n→h' x=h x)→h' n=some (.cells [[.int .i64 0,.int .i64 0]])→h' bb=some (.cells [eLf x])→(t' 0=.int .i64 non∧t' 1=.sl B 0 M 1∧t' 3=.mp mb∧t' 8=.ptr n 0 0∧t' 10=.ptr bb 0 0∧t' 16=lv∧t' 17=.int .i64 L.length)→t' 11=.bool is→t' 18=.int .i64 j→K t' h' n':=by
    intro t' h' n' is x e1 e2 e3 e4 e5 e6 e7 e8;refine hK _ _ _ ?_;refine W.region (k:=2) rfl ?_;simp only[go_sem,e8];refine⟨L.length - (j+1),by omega,j+1,is,x,rfl,by omega,e1,by omega,e3,e4,e5,e6,e7, ?_⟩;rw[wrap64 (by omega) (by omega)];rfl
   clear hK;refine W.block ?_;have zbn:∀j,¬b=n1+j:=fun j=>by omega
   have zmn:∀j,¬mb=n1+j:=fun j=>by omega
   have zBn:∀j,¬B=n1+j:=fun j=>by omega
   have zbb:∀j,¬bb=n1+j:=fun j=>by omega
   have znn:∀j,¬n=n1+j:=fun j=>by omega
   refine W.rseq (k:=4) rfl fun K hK=>?_;simp only[go_sem,a16,hb,m10,hbx,hx,show(j:Int)<(L.length:Int) by omega];refine hK _ _ _ ?_;clear hK K;refine W.rseq (k:=5) rfl fun K hK=>?_;simp only[go_sem,hmbx,hky,hfy,zmn,a3];refine hK _ _ _ ?_;clear hK K;refine W.seqk fun K hK=>?_
   have yes:∀(t':Fr) (h':Heap) (n':Nat),bb<n'→(∀x,x<n→h' x=h x)→h' n=some (.cells [[.int .i64 0,.int .i64 0]])→h' bb=some (.cells [eLf bs])→h' (n1+3)=some (.cells [eLf x])→(t' 0=.int .i64 non∧t' 1=.sl B 0 M 1∧t' 3=.mp mb∧t' 8=.ptr n 0 0∧t' 10=.ptr bb 0 0∧t' 16=lv∧t' 17=.int .i64 L.length)→t' 13=.ptr (n1+3) 0 0→t' 18=.int .i64 j→Nx (L.take j++[x]) L a non x true→K t' h' n':=by
    intro t' h' n' e1 e2 e3 e4 e5 e6 e7 e8 e9;refine hK _ _ _ ?_;clear hK K;have e6':=e6;obtain⟨a0,a1,a3,a8,a10,a16,a17⟩:=e6';refine W.region (k:=3) rfl ?_;simp only[go_sem,e7,e5,a10,e4];refine nx2 _ _ _ true x (by rw[ht1];exact e9) (by omega) (fun y hy=>by simp only[go_sem,show ¬y=bb by omega];exact e2 y hy) (by simp only[go_sem,znb,e3]) (by simp only[go_sem]) e6 rfl e8
   clear hK
   have fra:∀{o1 o2 o3 o4:Option AO} {y:Nat},y<n→upd (upd (upd (upd h1 (n1+3) o1) (n1+3) o2) (n1+8) o3) (n1+8) o4 y=h y:=fun {o1 o2 o3 o4 y} hy=>by
    simp only[go_sem,show ∀j,¬y=n1+j from fun j=>by omega];exact m5 y hy
   have hxt:(x.to:Int)<(M:Int):=by omega
   have lB:∀j,(B<n1+j)=True:=fun j=>eq_true (by omega)
   have lm:∀j,(mb<n1+j)=True:=fun j=>eq_true (by omega)
   have lb:∀j,(bb<n1+j)=True:=fun j=>eq_true (by omega)
   refine W.dseq (k:=30) rfl fun K hK=>?_
   by_cases c1:x.frm=non
   ·have e1:decide ((x.frm:Int)=(non:Int))=true:=by rw[c1];simp
    by_cases c2:d<0
    ·simp only[go_sem,lB,lm,lb,zmn,a0,a1,e1,hxt,hBx,zBn,had,eIn,decide_eq_true c2];refine hK _ _ _ _ (by kernel_rfl) ?_;clear hK K;refine W.condT (by simp only[go_sem]) ?_;refine W.exit ?_;simp only[go_sem];refine nx2 _ _ _ is bs ?_ (by omega) (fun y hy=>fra hy) (by simp only[go_sem,znn,m6]) (by simp only[go_sem,zbb,m7]) m8 m9 m10;rw[ht1];exact m3.old fun _=> .inl (by omega)
    ·cases hi:is
     ·simp only[go_sem,lB,lm,lb,zmn,a0,a1,e1,hxt,hBx,zBn,had,eIn,decide_eq_false c2,m9,hi];refine hK _ _ _ _ (by kernel_rfl) ?_;clear hK K;refine W.condF (by simp only[go_sem]) ?_;refine W.skip ?_;simp only[go_sem];refine yes _ _ _ (by omega) (fun y hy=>fra hy) (by simp only[go_sem,znn,m6]) (by simp only[go_sem,zbb,m7]) (by simp only[go_sem]) m8 rfl m10 ?_;exact m3.new hxm c1 (by omega) (fun e=>by rw[hi] at e;cases e)
     ·obtain⟨q1,q2,q3,q4⟩:=m3.2 hi;have hfb:=find_yes L hUq q1;rw[el] at hfb;obtain⟨_,q5⟩:=hLin bs q1;have haf:a[bs.to]?=some f:=by rw[hf];exact getI_some (by omega)
      have hbt:(bs.to:Int)<(M:Int):=by omega
      by_cases c3:d≥f
      ·simp only[go_sem,lB,lm,lb,zmn,a0,a1,e1,hxt,hBx,zBn,had,eIn,decide_eq_false c2,m9,hi,a3,a10,m7,zbb,hkb,hfb,hmbx,haf,hbt,decide_eq_true c3];refine hK _ _ _ _ (by kernel_rfl) ?_;clear hK K;refine W.condT (by simp only[go_sem]) ?_;refine W.exit ?_;simp only[go_sem];refine nx2 _ _ _ is bs ?_ (by omega) (fun y hy=>fra hy) (by simp only[go_sem,znn,m6]) (by simp only[go_sem,zbb,m7]) m8 m9 m10;rw[ht1];exact m3.old fun _=> .inr ⟨hi,by omega⟩
      ·simp only[go_sem,lB,lm,lb,zmn,a0,a1,e1,hxt,hBx,zBn,had,eIn,decide_eq_false c2,m9,hi,a3,a10,m7,zbb,hkb,hfb,hmbx,haf,hbt,decide_eq_false c3];refine hK _ _ _ _ (by kernel_rfl) ?_;clear hK K;refine W.condF (by simp only[go_sem]) ?_;refine W.skip ?_;simp only[go_sem];refine yes _ _ _ (by omega) (fun y hy=>fra hy) (by simp only[go_sem,znn,m6]) (by simp only[go_sem,zbb,m7]) (by simp only[go_sem]) m8 rfl m10 ?_;exact m3.new hxm c1 (by omega) (fun e=>by omega)
   ·simp only[go_sem,lB,lm,lb,zmn,a0,a1,show decide ((x.frm:Int)=(non:Int))=false from decide_eq_false (by omega)];refine hK _ _ _ _ (by kernel_rfl) ?_;clear hK K;refine W.condT (by simp only[go_sem]) ?_;refine W.exit ?_;simp only[go_sem];refine nx2 _ _ _ is bs ?_ (by omega) (fun y hy=>fra hy) (by simp only[go_sem,znn,m6]) (by simp only[go_sem,zbb,m7]) m8 m9 m10;rw[ht1];exact m3.old fun e=>absurd e c1
  ·refine W.exit ?_;simp only[go_sem];have hj:j=L.length:=by simp at hc2;omega
   subst hj;rw[List.take_length] at m3;exact nx0 _ _ _ bs is (by omega) m5 m6 m7 a8 a10 m9 m3
 clear hK nx0;rcases s4 with ⟨e,hb⟩|⟨b,hb,b1,b2,b3⟩
 ·simp only[go_sem,hb];refine nx1 _ _ _ (by omega) (fun y hy=>by simp only[go_sem,show ¬y=n by omega,show ¬y=bb by omega]) (by simp only[go_sem,znb]) (by simp only[go_sem]) ⟨rfl,rfl,rfl,rfl,rfl,by rw[←hb];rfl,by rw[e];rfl⟩ rfl rfl
 ·simp only[go_sem,hb];refine nx1 _ _ _ (by omega) (fun y hy=>by simp only[go_sem,show ¬y=n by omega,show ¬y=bb by omega]) (by simp only[go_sem,znb]) (by simp only[go_sem]) ⟨rfl,rfl,rfl,rfl,rfl,by rw[←hb];rfl,rfl⟩ rfl rfl
end Go.Av
namespace Go.Av
open Go.Proofs
set_option maxRecDepth 100000
theorem Pth.snoc {L:List Lf} {a b:Nat} {l:List Lf} {x:Lf} (h:Pth L a b l) (hx:x∈L) (hf:x.frm=b):Pth L a x.to (l++[x]):=Pth.app (b:=b) (m:=[x]) (show x∈L∧x.frm=b∧x.to=x.to from⟨hx,hf,rfl⟩) h
theorem StMem.next {g:Gr} {lo:Nat} {h h':Heap} {n n':Nat} {lv:AV} {mb:Nat} (s:StMem g lo h n lv mb) (hh:∀x,x<n→h' x=h x) (hn:n≤n'):StMem g lo h' n' lv mb:=by
 obtain⟨s1,s2,s3,s4,s5,s6⟩:=s;exact⟨s1,by omega,by rw[hh mb s2];exact s3,s4,s5,s6.next rfl (fun x _ hx=>hh x hx) hn (Nat.le_refl _)⟩
def Wb (g:Gr) (non:Nat) (l:List Lf):Prop:=l.length≤101∧((l=[]∧¬Cyc g non)∨(l≠[]∧Pth (stepsG g) non non l))
set_option maxHeartbeats 8000000 in
theorem fz142 (g:Gr) (hg:g.Small) (hr:right g=true) (non:Nat) (hnon:non<g.nons.toNat):∃l,PF pg Tq 142 [.agg (eGr g),.int .i64 non] (.ro (l.map eLf))∧Wb g non l:=by
 obtain⟨⟨hn1,hn2⟩,_,_,hp60,h5⟩:=right_in hr;obtain⟨M,hM⟩:∃M,M=g.nons.toNat:=⟨_,rfl⟩;have hMn:g.nons=(M:Int):=by omega
 have hd1:¬((non:Int)<0):=by omega
 have hd2:¬((non:Int)≥g.nons):=by omega
 have fin:FH pg Tq 142 [.agg (eGr g),.int .i64 non] h0 0 fun r h n=>∃l,SlL eLf 2 h 0 n r l∧Wb g non l:=by
  refine FH.of (N:=58) (rs:=#[.tmp 4]) Tryz.func142 rfl rfl (of_decide_eq_true rfl) rfl (by decide) ?_;refine W.rseq (k:=2) rfl fun K hK=>?_;simp only[go_sem];refine hK _ _ _ ?_;clear hK K;refine W.seq ?_;refine W.rseq (k:=13) rfl fun K hK=>?_;simp only[go_sem,hr,decide_eq_false hd1,decide_eq_false hd2];refine VCall.frz 6 (fz57 g hg) rfl ?_;try simp only[go_sem,hr,decide_eq_false hd1,decide_eq_false hd2];refine hK _ _ _ ?_;clear hK K;refine W.condF (by simp only[go_sem]) ?_;refine W.skip ?_;simp only[go_sem];refine W.rseq (k:=7) rfl fun K hK=>?_;simp only[go_sem]
  refine VCall.heap (fz206 g hg hr _ _) fun r h1 n1 ⟨x1,x2,lv,mb,x3,x4⟩=>?_
  subst x3;have hg0:h1 0=some (.cells [eGr g]):=by rw[x2 0 (by omega)];simp only[go_sem]
  have hn0:0<n1:=by omega
  have hmb0:¬mb=0:=by have:=x4.1;omega
  clear x1 x2;simp only[go_sem];refine hK _ _ _ ?_
  first|clear hK K|clear hK|skip
  have hmn:=x4.2.1;refine W.rseq (k:=6) rfl fun K hK=>?_;simp only[go_sem,hg0,hd1]
  refine VCall.heap (fz207 g hg hr non hnon _ h1 _ lv mb (x4.next (fun _ _=>rfl) (by omega))) fun r h2 n2 ⟨y1,y2,a,B,y3,y4,y5,y6,y7,y8⟩=>?_
  subst y5;have x5:StMem g _ h2 n2 lv mb:=x4.next (fun x hx=>y2 x (by omega)) (by omega);clear x4;simp only[go_sem];refine hK _ _ _ ?_
  first|clear hK K|clear hK|skip
  refine W.rseq (k:=1) rfl fun K hK=>?_;simp only[go_sem];refine hK _ _ _ ?_;clear hK K;refine W.rseq (k:=2) rfl fun K hK=>?_;simp only[go_sem];refine hK _ _ _ ?_;clear hK K
  have hcl:∀l,Pth (stepsG g) non non l→l≠[]→∃x∈stepsG g,x.frm=non∧0≤a.getD x.to (-1):=fun l hl hne=>by
   cases l with
   |nil=>exact absurd rfl hne
   |cons x l=>exact⟨x,hl.1,hl.2.1,path_aw y3 y4 l x.to hl.2.2⟩
  rw[←hM] at y3
  refine W.block (W.while (fun m t h1 n1=>∃(l:List Lf) (cur:Nat),Pth (stepsG g) non cur l∧0≤a.getD cur (-1)∧((l=[]∧cur=non∧m=M+1)∨(l≠[]∧cur≠non∧m=(a.getD cur (-1)).toNat))∧l.length+m≤M+1∧n2≤n1∧(∀x,x<n2→h1 x=h2 x)∧SlL eLf 2 h1 n2 n1 (t 8) l∧(t 1=.int .i64 non∧t 5=lv∧t 6=.mp mb∧t 7=.sl B 0 g.nons.toNat 1)∧t 9=.int .i64 cur) (M+1)
   ⟨[],non,rfl,by rw[y3.zero];exact Int.le_refl 0,.inl ⟨rfl,rfl,rfl⟩,by simp,by omega,fun x hx=>rfl,.inl ⟨rfl,rfl⟩,⟨rfl,rfl,rfl,rfl⟩,rfl⟩ fun m t h1 n1 ⟨l,cur,k1,k2,k3,k4,k5,k6,k7,k8,k9⟩=>?_)
  have k8':=k8;obtain⟨a1,a5,a6,a7⟩:=k8';refine W.block ?_;refine W.rseq (k:=11) rfl fun K hK=>?_;simp only[go_sem,a5,a6,a7,k9]
  refine VCall.heap (fz208 g hr a (by rw[y3.len,hM]) cur B _ h1 _ lv mb (x5.next k6 (by omega)) (by rw[k6 B y7];exact y8) (by omega)) fun r h3 n3 ⟨z1,z2,x,is,z3,z4⟩=>?_
  subst z3;simp only[go_sem];refine hK _ _ _ ?_
  first|clear hK K|clear hK|skip
  clear a1 a5 a6 a7;have hmb2:=x5.2.1;have hUq:=x5.2.2.2.1;have hmap:=x5.2.2.1;have hal:=y3.len;have hlb:l.length≤100:=by omega
  refine W.seq ?_;refine W.rseq (k:=2) rfl fun K hK=>?_;simp only[go_sem];refine hK _ _ _ ?_;clear hK K
  cases hi:is
  ·refine W.condT (by simp only[go_sem,hi]) ?_;refine W.rseq (k:=1) rfl fun K hK=>?_;simp only[go_sem];refine hK _ _ _ ?_;clear hK K;refine W.ret ?_;simp only[go_sem]
   refine⟨[],.inl ⟨rfl,rfl⟩,by simp,.inl ⟨rfl,fun⟨l',hne,hl'⟩=>?_⟩⟩;rcases k3 with ⟨e1,e2,_⟩|⟨e1,e2,_⟩
   ·obtain⟨y,hy,hf,h0⟩:=hcl l' hl' hne;have:=z4.1 hi y hy (by omega);omega
   ·by_cases hz:a.getD cur (-1)=0
    ·exact e2 (y3.only cur hz)
    ·obtain⟨y,hy,hf,h0,_⟩:=y3.by' cur (by omega);have:=z4.1 hi y hy hf;omega
  ·refine W.condF (by simp only[go_sem,hi]) ?_;refine W.skip ?_;simp only[go_sem];obtain⟨q1,q2,q3,q4⟩:=z4.2 hi;have hfy:=find_yes _ hUq q1;have hky:=key_lf (x:=x);have el:eLf x=[.int .i64 x.prod,.int .i64 x.dot]:=rfl;rw[el] at hfy hky;have hxl:=aw_lt y3 x.to;refine W.rseq (k:=5) rfl fun K hK=>?_
   have nx:∀(t':Fr) (h':Heap) (n':Nat),n1+8<n'→(∀x,x<n2→h' x=h2 x)→SlL eLf 2 h' n2 n' (t' 8) (l++[x])→(t' 1=.int .i64 non∧t' 5=lv∧t' 6=.mp mb∧t' 7=.sl B 0 g.nons.toNat 1)→t' 10=.ptr (n1+8) 0 0→h' (n1+8)=some (.cells [eLf x])→K t' h' n':=by
    intro t' h' n' e1 e2 e3 e4 e5 e6;refine hK _ _ _ ?_;clear hK K;have e4':=e4;obtain⟨a1,a5,a6,a7⟩:=e4';have hm':=e2 mb hmb2;rw[hmap] at hm';refine W.rseq (k:=5) rfl fun K hK=>?_;simp only[go_sem,a6,e5,e6,hm',hky,hfy];refine hK _ _ _ ?_;clear hK K;refine W.rseq (k:=3) rfl fun K hK=>?_;simp only[go_sem,a1];refine hK _ _ _ ?_;clear hK K
    by_cases hb:x.to=non
    ·refine W.condT (by simp only[go_sem,show decide ((x.to:Int)=(non:Int))=true from decide_eq_true (by omega)]) ?_;refine W.rseq (k:=2) rfl fun K hK=>?_;simp only[go_sem];refine hK _ _ _ ?_;clear hK K;refine W.ret ?_;simp only[go_sem]
     refine⟨l++[x],e3.next rfl (fun x hx hx'=>by simp only[go_sem]) (by omega) (by omega),by rw[List.length_append,List.length_singleton];omega,.inr ⟨by simp, ?_⟩⟩;have:=k1.snoc q1 q2;rwa[hb] at this
    ·refine W.condF (by simp only[go_sem,show decide ((x.to:Int)=(non:Int))=false from decide_eq_false (by omega)]) ?_;refine W.skip ?_;simp only[go_sem];refine⟨(a.getD x.to (-1)).toNat, ?_,l++[x],x.to,k1.snoc q1 q2,q3,.inr ⟨by simp,hb,rfl⟩, ?_,by omega,e2,e3.next rfl (fun x hx hx'=>by simp only[go_sem]) (by omega) (by omega),e4,rfl⟩
     all_goals rcases k3 with ⟨e1,e2,e3⟩|⟨e1,e2,e3⟩
     ·omega
     ·by_cases hz:a.getD cur (-1)=0
      ·exact absurd (y3.only cur hz) e2
      ·obtain⟨y,hy,hf,h0,hlt⟩:=y3.by' cur (by omega);have:=q4 y hy hf h0;omega
     ·rw[List.length_append,e1];simp only[List.length_nil,List.length_singleton];omega
     ·by_cases hz:a.getD cur (-1)=0
      ·exact absurd (y3.only cur hz) e2
      ·obtain⟨y,hy,hf,h0,hlt⟩:=y3.by' cur (by omega);have:=q4 y hy hf h0;rw[List.length_append,List.length_singleton];omega
   clear hK;rcases k7 with ⟨w0,w5⟩|⟨b,w5,w1,w2,w3⟩
   ·simp only[go_sem,w5,ne_eq,not_false_eq_true,Int.reduceEq,show(0:Nat)<1 by omega,show(0:Nat)<2 by omega,show(0:Nat)<16 by omega];refine nx _ _ _ (by omega) (fun y hy=>by simp only[go_sem,show ¬y=n1+8 by omega,show ∀j,¬y=n3+j from fun j=>by omega];rw[z2 y (by omega)];exact k6 y hy) (.inr ⟨n3+5,by rw[w0];rfl,by omega,by omega,by rw[w0];simp only[go_sem];rfl⟩) k8 rfl (by simp only[go_sem,show ∀j,¬n1+8=n3+j from fun j=>by omega])
   ·have zb:∀j,¬b=n3+j:=fun j=>by omega
    have zb8:¬b=n1+8:=by omega
    have w4:=z2 b (by omega);rw[w3] at w4;have hLE:(l++[x]).map eLf=l.map eLf++[[.int .i64 x.prod,.int .i64 x.dot]]:=by rw[List.map_append];rfl
    simp only[go_sem,w5,w4,zb,zb8,Nat.lt_irrefl,and_false,if_false,ne_eq,not_false_eq_true,Int.reduceEq,show(0:Nat)<1 by omega,show(0:Nat)<2 by omega,show(0:Nat)<16 by omega,show(l.length+1)*16≤140737488355328 by omega];refine nx _ _ _ (by omega) (fun y hy=>by simp only[go_sem,show ¬y=n1+8 by omega,show ∀j,¬y=n3+j from fun j=>by omega,show ¬y=b by omega];rw[z2 y (by omega)];exact k6 y hy) (.inr ⟨n3+5,by rw[List.length_append];rfl,by omega,by omega,by rw[hLE];simp only[go_sem]⟩) k8 rfl (by simp only[go_sem,show ∀j,¬n1+8=n3+j from fun j=>by omega,show ¬n1+8=b by omega])
 obtain⟨r,h',n',hb,l,ho,hw⟩:=fin;exact⟨l,⟨_,h',n',hb,5,fun fr=>ho.frz (d:=3) fun x _=>by simp[rfs,rf,eLf]⟩,hw⟩
end Go.Av
