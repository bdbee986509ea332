/-
  Texts V1, V2, V3, V4 of this work, one behind the other. Conditions: none.
-/
import Derived.Test.YtjpkjbobcicfoaaGreatDoorU4
import Derived.Test.YtjpkjbobcicfoaaGreatDoorR3
import Derived.Test.YtjpkjbobcicfoaaGreatDoorG1
import Derived.Test.YtjpkjbobcicfoaaGreatDoorD1
set_option linter.unusedSimpArgs false
set_option linter.unusedVariables false
namespace Go.Av
open Go.Proofs
set_option maxRecDepth 100000
end Go.Av
namespace Go.Av
open Go.Proofs
set_option maxRecDepth 100000
def seek (p:Nat→Bool):Nat→Nat→Option Nat
 |0,_=>none
 |n+1,i=>if p i then some i else seek p n (i+1)
theorem seek_none {p:Nat→Bool}:∀{n i:Nat},seek p n i=none→∀j,i≤j→j<i+n→p j=false
 |0,i,_,j,h1,h2=>by omega
 |n+1,i,h,j,h1,h2=>by
  rw[seek] at h;cases hp:p i
  ·rw[hp] at h;by_cases e:j=i
   ·rw[e,hp]
   ·exact seek_none (n:=n) h j (by omega) (by omega)
  ·rw[hp] at h;cases h
def sk (o:Option Nat):Int:=match o with
 |some i=>i
 |none=> -1
def zR (l:List Fc) (i:Nat):Bool:=decide (rk l i=0)
noncomputable def checkL (g:Gr):Int×Int:=
 if right g then match seek (zR (ranksL g true)) g.nons.toNat 0 with
  |some i=>(i,8)
  |none=>match seek (zR (reachL g)) g.nons.toNat 0 with
   |some i=>(i,9)
   |none=>match seek (cycB g) g.nons.toNat 0 with
    |some i=>(i,10)
    |none=>(0,0)
 else (0,1)
theorem wb_pos {g:Gr} {i:Nat} {l:List Lf} (h:Wb g i l):decide ((l.length:Int)>0)=cycB g i:=by
 obtain⟨_,⟨rfl,h⟩|⟨h1,h2⟩⟩:=h
 ·cases hc:cycB g i
  ·rfl
  ·exact absurd (cycB_iff.1 hc) h
 ·rw[cycB_iff.2 ⟨l,h1,h2⟩];have:=List.length_pos_iff.2 h1;simpa using this
set_option maxHeartbeats 4000000 in
theorem fz73 (g:Gr) (hg:g.Small) (hr:right g=true):∃w:Nat,w<2^32∧(∀i,i<g.nons.toNat→w.testBit i=cycB g i)∧PF pg Tq 73 [.agg (eGr g)] (.int .u32 w):=by
 obtain⟨⟨hn1,hn2⟩,_,_,hp60,h5⟩:=right_in hr;obtain⟨M,hM⟩:∃M,M=g.nons.toNat:=⟨_,rfl⟩;have hMn:g.nons=(M:Int):=by omega
 rw[←hM]
 have fin:FH pg Tq 73 [.agg (eGr g)] h0 0 fun r h n=>∃w:Nat,w<2^32∧(∀i,i<M→w.testBit i=cycB g i)∧r=.int .u32 w:=by
  refine FH.of (N:=24) (rs:=#[.tmp 2]) Tryz.func73 rfl rfl (of_decide_eq_true rfl) rfl (by decide) ?_;refine W.rseq (k:=2) rfl fun K hK=>?_;simp only[go_sem];refine hK _ _ _ ?_;clear hK K;refine W.rseq (k:=1) rfl fun K hK=>?_;simp only[go_sem];refine hK _ _ _ ?_;clear hK K;refine W.seq ?_;refine W.rseq (k:=3) rfl fun K hK=>?_;simp only[go_sem];refine hK _ _ _ ?_;clear hK K
  refine W.block (W.while (fun m t h n=>∃(i w:Nat),m=M - i∧i≤M∧0<n∧w<2^32∧(∀j,w.testBit j=(decide (j<i) && cycB g j))∧h 0=some (.cells [eGr g])∧(t 1=.ptr 0 0 0∧t 6=.int .i64 M)∧t 3=.int .u32 w∧t 7=.int .i64 i) M
   ⟨0,0,by simp,by simp,by omega,by decide,by simp,by simp only[go_sem],⟨rfl,by simp only[go_sem,hMn]⟩,rfl,rfl⟩ fun m t h n ⟨i,w,i1,i2,i3,i4,i5,i6,i7,i8,i9⟩=>?_)
  have i7':=i7;obtain⟨a1,a6⟩:=i7';refine W.rseq (k:=1) rfl fun K hK=>?_;simp only[go_sem,a6,i9];refine hK _ _ _ ?_;clear hK K;refine W.seq ?_
  refine W.cond rfl (fun hc=>?_) fun hc=>?_
  ·refine W.skip ?_;simp only[go_sem];have hi:i<M:=by simp at hc;omega
   obtain⟨l,hp,hw⟩:=fz142 g hg hr i (by omega);have zn:∀j,¬0=n+j:=fun j=>by omega
   refine W.seqk fun K hK=>?_
   have nx:∀(t':Fr) (h':Heap) (n' w:Nat),0<n'→w<2^32→(∀j,w.testBit j=(decide (j<i+1) && cycB g j))→h' 0=some (.cells [eGr g])→(t' 1=.ptr 0 0 0∧t' 6=.int .i64 M)→t' 3=.int .u32 w→t' 7=.int .i64 i→K t' h' n':=by
    intro t' h' n' w e1 e2 e3 e4 e5 e6 e7;refine hK _ _ _ ?_;clear hK K;refine W.region (k:=2) rfl ?_;simp only[go_sem,e7];refine⟨M - (i+1),by omega,i+1,w,rfl,by omega,by omega,e2,e3,e4,e5,e6, ?_⟩;rw[wrap64 (by omega) (by omega)];rfl
   clear hK;refine W.block ?_;refine W.rseq (k:=2) rfl fun K hK=>?_;simp only[go_sem,i9];refine hK _ _ _ ?_;clear hK K;refine W.seq ?_;refine W.rseq (k:=3) rfl fun K hK=>?_;simp only[go_sem,a1,i6];refine VCall.frz 6 (fz57 g hg) rfl ?_;simp only[go_sem,hr];refine hK _ _ _ ?_
   first|clear hK K|clear hK|skip
   refine W.condF (by simp only[go_sem]) ?_;refine W.skip ?_;simp only[go_sem];refine W.rseq (k:=5) rfl fun K hK=>?_;simp only[go_sem,a1,i6];refine VCall.frz 6 hp rfl ?_;simp only[go_sem];refine hK _ _ _ ?_
   first|clear hK K|clear hK|skip
   cases hcy:cycB g i
   ·refine W.condF (by simp only[go_sem];rw[wb_pos hw,hcy]) ?_;refine W.skip ?_;simp only[go_sem];refine nx _ _ _ w (by omega) i4 (fun j=>?_) i6 ⟨a1,a6⟩ i8 i9;rw[i5 j];by_cases e:j=i
    ·rw[e,hcy];simp
    ·rw[show decide (j<i+1)=decide (j<i) from decide_eq_decide.2 (by omega)]
   ·refine W.condT (by simp only[go_sem];rw[wb_pos hw,hcy]) ?_;refine W.region (k:=5) rfl ?_;simp only[go_sem,i8,shl32 (show i<32 by omega),or32 i4 (Nat.pow_lt_pow_right (by decide) (show i<32 by omega))];refine nx _ _ _ (w|||2^i) (by omega) (Nat.or_lt_two_pow i4 (Nat.pow_lt_pow_right (by decide) (by omega))) (fun j=>?_) i6 ⟨a1,a6⟩ rfl i9;rw[Nat.testBit_or,i5 j,Nat.testBit_two_pow];by_cases e:i=j
    ·subst e;rw[hcy];simp
    ·rw[show decide (j<i+1)=decide (j<i) from decide_eq_decide.2 (by omega),decide_eq_false e,Bool.or_false]
  ·refine W.exit ?_;simp only[go_sem];have hi:i=M:=by simp at hc;omega
   refine W.rseq (k:=2) rfl fun K hK=>?_;simp only[go_sem,i8];refine hK _ _ _ ?_;clear hK K;refine W.ret ?_;simp only[go_sem]
   exact⟨w,i4,fun j hj=>by rw[i5 j,decide_eq_true (by omega)];rfl,rfl⟩
 obtain⟨r,h',n',hb,w,w1,w2,rfl⟩:=fin;exact⟨w,w1,w2,_,h',n',hb,1,fun fr=>rfl⟩
theorem fz69 (f:Fc):PF pg Tq 69 [.agg (eFc f)] (.bool (decide (f.1=0))):=by
 refine Fb ?_;refine FH.of (N:=6) (rs:=#[.tmp 2]) Tryz.func69 rfl rfl (of_decide_eq_true rfl) rfl (by decide) ?_;refine W.rseq (k:=2) rfl fun K hK=>?_;simp only[go_sem];refine hK _ _ _ ?_;clear hK K;refine W.rseq (k:=4) rfl fun K hK=>?_;simp only[go_sem];refine hK _ _ _ ?_;clear hK K;refine W.ret ?_;simp only[go_sem]
set_option maxHeartbeats 4000000 in
theorem fz70 (l:List Fc) (hl:l.length<2^40):PF pg Tq 70 [.ro (l.map eFc),.fn 69 []] (.int .i64 (sk (seek (zR l) l.length 0))):=by
 have fin:FH pg Tq 70 [.ro (l.map eFc),.fn 69 []] h0 0 fun r h n=>r=.int .i64 (sk (seek (zR l) l.length 0)):=by
  refine FH.of (N:=19) (rs:=#[.tmp 4]) Tryz.func70 rfl rfl (of_decide_eq_true rfl) rfl (by decide) ?_;refine W.rseq (k:=1) rfl fun K hK=>?_;simp only[go_sem];refine hK _ _ _ ?_;clear hK K;refine W.seq ?_;refine W.rseq (k:=3) rfl fun K hK=>?_;simp only[go_sem];refine hK _ _ _ ?_;clear hK K
  refine W.block (W.while (fun m t h n=>∃j:Nat,m=l.length - j∧j≤l.length∧seek (zR l) (l.length - j) j=seek (zR l) l.length 0∧(t 0=.ro (l.map eFc)∧t 1=.fn 69 []∧t 7=.int .i64 l.length)∧t 8=.int .i64 j) l.length
   ⟨0,by simp,by simp,by simp,⟨rfl,rfl,by simp only[go_sem]⟩,rfl⟩ fun m t h n ⟨j,i1,i2,i3,i6,i7⟩=>?_)
  have i6':=i6;obtain⟨a0,a1,a7⟩:=i6';refine W.rseq (k:=1) rfl fun K hK=>?_;simp only[go_sem,a7,i7];refine hK _ _ _ ?_;clear hK K;refine W.seq ?_
  refine W.cond rfl (fun hc=>?_) fun hc=>?_
  ·refine W.skip ?_;simp only[go_sem];have hj:j<l.length:=by simp at hc;omega
   obtain⟨f,hf⟩:=get_some hj;have hz:zR l j=decide (f.1=0):=by rw[zR,rk,Int.toNat_natCast,List.getD_eq_getElem?_getD,hf];rfl
   rw[show l.length - j=(l.length - (j+1))+1 by omega,seek,hz] at i3;refine W.seq (W.block ?_);refine W.rseq (k:=2) rfl fun K hK=>?_;simp only[go_sem,i7];refine hK _ _ _ ?_;clear hK K;refine W.rseq (k:=6) rfl fun K hK=>?_;simp only[go_sem,a0,a1,i7,hf];refine VCall.frz 6 (fz69 f) rfl ?_;simp only[go_sem];refine hK _ _ _ ?_
   first|clear hK K|clear hK|skip
   by_cases e:f.1=0
   ·rw[if_pos (by simpa using e)] at i3;refine W.condT (by simp only[go_sem,e]) ?_;refine W.rseq (k:=2) rfl fun K hK=>?_;simp only[go_sem];refine hK _ _ _ ?_;clear hK K;refine W.ret ?_;simp only[go_sem]
    rw[←i3];rfl
   ·rw[if_neg (by simpa using e)] at i3;refine W.condF (by simp only[go_sem,decide_eq_false e]) ?_;refine W.skip ?_;simp only[go_sem];refine W.region (k:=2) rfl ?_;simp only[go_sem,i7];refine⟨l.length - (j+1),by omega,j+1,rfl,by omega,i3,⟨a0,a1,a7⟩, ?_⟩;rw[wrap64 (by omega) (by omega)];rfl
  ·refine W.exit ?_;simp only[go_sem];have hj:j=l.length:=by simp at hc;omega
   rw[hj,Nat.sub_self,seek] at i3;refine W.rseq (k:=1) rfl fun K hK=>?_;simp only[go_sem];refine hK _ _ _ ?_;clear hK K;refine W.ret ?_;simp only[go_sem]
   rw[←i3];rfl
 obtain⟨r,h',n',hb,rfl⟩:=fin;exact⟨_,h',n',hb,1,fun fr=>rfl⟩
end Go.Av
namespace Go.Av
open Go.Proofs
set_option maxRecDepth 100000
theorem bit_is1 {x t:Nat}:decide (((x / 2^t % 2:Nat):Int)=1)=x.testBit t:=by
 rw[Nat.testBit_eq_decide_div_mod_eq];have:=Nat.mod_lt (x / 2^t) (show 0<2 by decide);by_cases h:x / 2^t % 2=1
 ·simp[h]
 ·have h0:x / 2^t % 2=0:=by omega
  simp[h0]
theorem sk_neg {o:Option Nat}:decide (sk o≥0)=o.isSome:=by
 cases o with
 |none=>rfl
 |some i=>simp[sk]
set_option maxHeartbeats 4000000 in
theorem fz26 (g:Gr) (hg:g.Small):PF pg Tq 26 [.agg (eGr g)] (.tup [.int .i64 (checkL g).1,.int .i64 (checkL g).2]):=by
 have fin:FH pg Tq 26 [.agg (eGr g)] h0 0 fun r h n=>r=.tup [.int .i64 (checkL g).1,.int .i64 (checkL g).2]:=by
  refine FH.of (N:=40) (rs:=#[.tmp 2,.tmp 3]) Tryz.func26 rfl rfl (of_decide_eq_true rfl) rfl (by decide) ?_;refine W.rseq (k:=3) rfl fun K hK=>?_;simp only[go_sem];refine hK _ _ _ ?_;clear hK K;refine W.seq ?_;refine W.rseq (k:=3) rfl fun K hK=>?_;simp only[go_sem];refine VCall.frz 6 (fz57 g hg) rfl ?_;try simp only[go_sem];refine hK _ _ _ ?_;clear hK K
  cases hr:right g
  ·refine W.condT (by simp only[go_sem,hr]) ?_;refine W.rseq (k:=2) rfl fun K hK=>?_;simp only[go_sem];refine hK _ _ _ ?_;clear hK K;refine W.ret ?_;simp only[go_sem]
   rw[checkL,hr];rfl
  refine W.condF (by simp only[go_sem,hr]) ?_;refine W.skip ?_;simp only[go_sem];obtain⟨⟨hn1,hn2⟩,_,_,hp60,h5⟩:=right_in hr;obtain⟨M,hM⟩:∃M,M=g.nons.toNat:=⟨_,rfl⟩;have hMn:g.nons=(M:Int):=by omega
  have hl1:(ranksL g true).length=M:=by have:=(ranks_fin (terms:=true) hr).1;omega
  have hl2:(reachL g).length=M:=by have:=(reach_fin hr).1;omega
  have hce:checkL g=match seek (zR (ranksL g true)) M 0 with
   |some i=>((i:Int),8)
   |none=>match seek (zR (reachL g)) M 0 with
    |some i=>((i:Int),9)
    |none=>match seek (cycB g) M 0 with
     |some i=>((i:Int),10)
     |none=>(0,0):=by rw[checkL,hr,←hM];rfl
  have h1:=fz70 (ranksL g true) (by omega);have h2:=fz70 (reachL g) (by omega);rw[hl1] at h1;rw[hl2] at h2;obtain⟨w,w1,w2,h3⟩:=fz73 g hg hr;rw[←hM] at w2;refine W.rseq (k:=1) rfl fun K hK=>?_;simp only[go_sem];refine hK _ _ _ ?_;clear hK K;refine W.seq ?_;refine W.rseq (k:=5) rfl fun K hK=>?_;simp only[go_sem];refine VCall.frz 6 (OwnFc.pf (fz71 g hg)) rfl ?_;simp only[go_sem];refine VCall.frz 6 h1 rfl ?_;simp only[go_sem];refine hK _ _ _ ?_
  first|clear hK K|clear hK|skip
  refine W.rseq (k:=2) rfl fun K hK=>?_;simp only[go_sem];refine hK _ _ _ ?_;clear hK K
  cases hs1:seek (zR (ranksL g true)) M 0 with
  |some i=>
   refine W.condT (by simp only[go_sem];rw[sk_neg];rfl) ?_;refine W.rseq (k:=3) rfl fun K hK=>?_;simp only[go_sem];refine hK _ _ _ ?_;clear hK K;refine W.ret ?_;simp only[go_sem]
   rw[hce,hs1];rfl
  |none=>
  refine W.condF (by simp only[go_sem];rw[sk_neg];rfl) ?_;refine W.skip ?_;simp only[go_sem];refine W.seq ?_;refine W.rseq (k:=5) rfl fun K hK=>?_;simp only[go_sem];refine VCall.frz 6 (OwnFc.pf (fz72 g hg)) rfl ?_;simp only[go_sem];refine VCall.frz 6 h2 rfl ?_;simp only[go_sem];refine hK _ _ _ ?_
  first|clear hK K|clear hK|skip
  refine W.rseq (k:=2) rfl fun K hK=>?_;simp only[go_sem];refine hK _ _ _ ?_;clear hK K
  cases hs2:seek (zR (reachL g)) M 0 with
  |some i=>
   refine W.condT (by simp only[go_sem];rw[sk_neg];rfl) ?_;refine W.rseq (k:=3) rfl fun K hK=>?_;simp only[go_sem];refine hK _ _ _ ?_;clear hK K;refine W.ret ?_;simp only[go_sem]
   rw[hce,hs1,hs2];rfl
  |none=>
  refine W.condF (by simp only[go_sem];rw[sk_neg];rfl) ?_;refine W.skip ?_;simp only[go_sem];rw[hs1,hs2] at hce;simp only at hce;refine W.rseq (k:=3) rfl fun K hK=>?_;simp only[go_sem];refine VCall.frz 6 h3 rfl ?_;try simp only[go_sem];refine hK _ _ _ ?_;clear hK K;refine W.seq ?_;refine W.rseq (k:=3) rfl fun K hK=>?_;simp only[go_sem];refine hK _ _ _ ?_;clear hK K
  refine W.block (W.while (fun m t h n=>∃(i:Nat),m=M - i∧i≤M∧seek (cycB g) (M - i) i=seek (cycB g) M 0∧(t 7=.int .u32 w∧t 29=.int .i64 M)∧t 30=.int .i64 i) M
   ⟨0,by simp,by simp,by simp,⟨rfl,by simp only[go_sem,hMn]⟩,rfl⟩ fun m t h n ⟨i,i1,i2,i3,i7,i9⟩=>?_)
  have i7':=i7;obtain⟨a7,a29⟩:=i7';refine W.rseq (k:=1) rfl fun K hK=>?_;simp only[go_sem,a29,i9];refine hK _ _ _ ?_;clear hK K;refine W.seq ?_
  refine W.cond rfl (fun hc=>?_) fun hc=>?_
  ·refine W.skip ?_;simp only[go_sem];have hi:i<M:=by simp at hc;omega
   have hw:=w2 i hi;rw[show M - i=(M - (i+1))+1 by omega,seek] at i3;refine W.seq (W.block ?_);refine W.rseq (k:=2) rfl fun K hK=>?_;simp only[go_sem,i9];refine hK _ _ _ ?_;clear hK K;refine W.rseq (k:=5) rfl fun K hK=>?_;simp only[go_sem,a7,shr32 (x:=w) (show i<32 by omega),and32 (x:=w / 2^i) (Nat.lt_of_le_of_lt (Nat.div_le_self _ _) w1)];refine hK _ _ _ ?_;clear hK K
   cases hcy:cycB g i
   ·rw[hcy] at i3 hw;refine W.condF (by simp only[go_sem];rw[bit_is1,hw]) ?_;refine W.skip ?_;simp only[go_sem];refine W.region (k:=2) rfl ?_;simp only[go_sem,i9];refine⟨M - (i+1),by omega,i+1,rfl,by omega,i3,⟨a7,a29⟩, ?_⟩;rw[wrap64 (by omega) (by omega)];rfl
   ·rw[hcy] at i3 hw;refine W.condT (by simp only[go_sem];rw[bit_is1,hw]) ?_;refine W.rseq (k:=3) rfl fun K hK=>?_;simp only[go_sem];refine hK _ _ _ ?_;clear hK K;refine W.ret ?_;simp only[go_sem]
    rw[hce,←i3];rfl
  ·refine W.exit ?_;simp only[go_sem];have hi:i=M:=by simp at hc;omega
   rw[hi,Nat.sub_self,seek] at i3;refine W.rseq (k:=2) rfl fun K hK=>?_;simp only[go_sem];refine hK _ _ _ ?_;clear hK K;refine W.ret ?_;simp only[go_sem]
   rw[hce,←i3]
 obtain⟨r,h',n',hb,rfl⟩:=fin;exact⟨_,h',n',hb,3,fun fr=>rfl⟩
end Go.Av
namespace Go.Av
open Go.Proofs
set_option maxRecDepth 100000
end Go.Av
namespace Go.Av
open Go.Proofs
set_option maxRecDepth 100000
theorem stepsP_at {null:List Fc} {i left:Nat}:∀(r:List Sy) (k:Nat),∀x∈stepsP null i left r k,x.prod=i∧x.frm=left∧k≤x.dot∧∃s,r[x.dot - k]?=some s∧s.non=true∧x.to=s.n.toNat
 |[],k,x,hx=>by cases hx
 |s::r,k,x,hx=>by
  rw[stepsP] at hx;split at hx
  ·rename_i hn
   rcases List.mem_cons.1 hx with rfl|hx
   ·exact⟨rfl,rfl,Nat.le_refl _,s,by simp,hn,rfl⟩
   ·split at hx
    ·cases hx
    ·obtain⟨a,b,c,s',d,e⟩:=stepsP_at r (k+1) x hx;refine⟨a,b,by omega,s', ?_,e⟩;rw[show x.dot - k=(x.dot - (k+1))+1 by omega,List.getElem?_cons_succ];exact d
  ·cases hx
theorem steps_at {g:Gr} {x:Lf} (hx:x∈stepsG g):∃p s,g.prods[x.prod]?=some p∧p.right[x.dot]?=some s∧s.non=true∧x.to=s.n.toNat∧x.frm=p.left.toNat:=by
 simp only[stepsG,stepsF,List.mem_flatMap] at hx;obtain⟨⟨p,i⟩,hp,hx⟩:=hx;obtain⟨a,b,c,s,d,e,f⟩:=stepsP_at p.right 0 x hx;have:=List.mem_zipIdx_iff_getElem?.1 hp;exact⟨p,s,by rw[a];exact this,by simpa using d,e,f,b⟩
def preB (null:List Fc) (r:List Sy) (k:Nat):Bool:=(r.take k).all fun s=>s.non && !decide (rk null s.n=0)
theorem pre_next {null:List Fc} {r:List Sy} {k:Nat} {s:Sy} (h:r[k]?=some s):preB null r (k+1)=(preB null r k && (s.non && !decide (rk null s.n=0))):=by
 unfold preB;rw[List.take_add_one,h];simp
theorem pre_up {null:List Fc} {r:List Sy} {k:Nat}:∀j,preB null r k=false→preB null r (k+j)=false:=fun j h=>by
 unfold preB at h ⊢;rw[List.all_eq_false] at h ⊢;obtain⟨x,hx,h⟩:=h;exact⟨x,List.take_subset_take_left r (Nat.le_add_right k j) hx,h⟩
set_option maxHeartbeats 4000000 in
theorem fz223 (g:Gr) (hg:g.Small) (hr:right g=true) (null:List Fc) (hnl:(null.length:Int)=g.nons) (i k:Nat) (p:Pr) (hp:g.prods[i]?=some p) (s:Sy) (hs:p.right[k]?=some s):
  PF pg Tq 223 [.agg (eGr g),.ro (null.map eFc),.agg [.int .i64 i,.int .i64 k]] (.bool (preB null p.right k && s.non)):=by
 obtain⟨⟨hn1,hn2⟩,_,_,hp60,h5⟩:=right_in hr;have hm:p∈g.prods:=List.mem_of_getElem? hp;obtain⟨⟨hl0,hl1⟩,h8,hsy⟩:=h5 p hm;have hi:i<g.prods.length:=(List.getElem?_eq_some_iff.1 hp).1;have hk:k<p.right.length:=(List.getElem?_eq_some_iff.1 hs).1;refine Fb ?_;refine FH.of (N:=78) (rs:=#[.tmp 6]) Tryz.func223 rfl rfl (of_decide_eq_true rfl) rfl (by decide) ?_;refine W.rseq (k:=3) rfl fun K hK=>?_;simp only[go_sem];refine hK _ _ _ ?_;clear hK K;refine W.seq ?_;refine W.dseq (k:=29) rfl fun K hK=>?_;simp only[go_sem,hp,hs,decide_eq_false (show ¬((i:Int)<0) by omega),decide_eq_false (show ¬((i:Int)≥(g.prods.length:Int)) by omega),decide_eq_false (show ¬((k:Int)<0) by omega),decide_eq_false (show ¬((k:Int)≥(p.right.length:Int)) by omega)];refine hK _ _ _ _ (by kernel_rfl) ?_;clear hK K;refine W.condF (by simp only[go_sem]) ?_;refine W.skip ?_;simp only[go_sem];refine W.seqk fun K hK=>?_;refine W.rseq (k:=1) rfl fun K hK=>?_;simp only[go_sem];refine hK _ _ _ ?_;clear hK K
 have nx:∀(t':Fr) (h':Heap) (n':Nat),1<n'→preB null p.right k=true→h' 0=some (.cells [eGr g])→h' 1=some (.cells [[.int .i64 i,.int .i64 k]])→(t' 1=.ro (null.map eFc)∧t' 3=.ptr 0 0 0∧t' 5=.ptr 1 0 0)→K t' h' n':=by
  intro t' h' n' e1 e2 e3 e4 e5;refine hK _ _ _ ?_;clear hK K;obtain⟨a1,a3,a5⟩:=e5;refine W.dseq (k:=13) rfl fun K hK=>?_;simp only[go_sem,a3,a5,e3,e4,hp,hs,eq_true e1,eq_true (show 0<n' by omega)];refine hK _ _ _ _ (by kernel_rfl) ?_;clear hK K;refine W.ret ?_;simp only[go_sem]
  rw[e2];rfl
 clear hK
 refine W.block (W.while (fun m t h n=>∃j:Nat,m=k - j∧j≤k∧1<n∧preB null p.right j=true∧h 0=some (.cells [eGr g])∧h 1=some (.cells [[.int .i64 i,.int .i64 k]])∧(t 1=.ro (null.map eFc)∧t 3=.ptr 0 0 0∧t 5=.ptr 1 0 0)∧t 7=.int .i64 j) k
  ⟨0,by simp,by simp,by omega,by simp[preB],by simp only[go_sem],by simp only[go_sem],⟨rfl,rfl,rfl⟩,rfl⟩ fun m t h n ⟨j,i1,i2,i3,i4,i5,i6,i7,i8⟩=>?_)
 have i7':=i7;obtain⟨a1,a3,a5⟩:=i7';refine W.seq ?_;refine W.rseq (k:=4) rfl fun K hK=>?_;simp only[go_sem,i8,a5,i6];refine hK _ _ _ ?_;clear hK K
 refine W.cond rfl (fun hc=>?_) fun hc=>?_
 ·refine W.skip ?_;simp only[go_sem];have hj:j<k:=by simp at hc;omega
  obtain⟨y,hy⟩:=get_some (l:=p.right) (k:=j) (by omega);have hym:=List.mem_of_getElem? hy;have hyb:=hsy y hym;have z0:∀j,¬0=n+j:=fun j=>by omega
  have z1:∀j,¬1=n+j:=fun j=>by omega
  refine W.seqk fun K hK=>?_
  have nx2:∀(t':Fr) (h':Heap) (n':Nat),1<n'→preB null p.right (j+1)=true→h' 0=some (.cells [eGr g])→h' 1=some (.cells [[.int .i64 i,.int .i64 k]])→(t' 1=.ro (null.map eFc)∧t' 3=.ptr 0 0 0∧t' 5=.ptr 1 0 0)→t' 7=.int .i64 j→K t' h' n':=by
   intro t' h' n' e1 e2 e3 e4 e5 e6;refine hK _ _ _ ?_;clear hK K;refine W.region (k:=3) rfl ?_;simp only[go_sem,e6];refine⟨k - (j+1),by omega,j+1,rfl,by omega,by omega,e2,e3,e4,e5, ?_⟩;rw[wrap64 (by omega) (by omega)];rfl
  clear hK;refine W.block ?_;refine W.rseq (k:=12) rfl fun K hK=>?_;simp only[go_sem,a3,a5,i5,i6,hp,hy,i8];refine hK _ _ _ ?_;clear hK K
  have hpn:=pre_next (null:=null) hy;rw[i4,Bool.true_and] at hpn
  have bad:preB null p.right (j+1)=false→preB null p.right k=false:=fun h=>by
   have:=pre_up (k - (j+1)) h;rwa[show j+1+(k - (j+1))=k by omega] at this
  refine W.rseq (k:=12) rfl fun K hK=>?_
  cases hyn:y.non with
  |false=>
   rw[hyn] at hpn;simp only[go_sem,hyn];refine hK _ _ _ ?_
   first|clear hK K|clear hK|skip
   refine W.condT (by simp only[go_sem]) ?_;refine W.rseq (k:=1) rfl fun K hK=>?_;simp only[go_sem];refine hK _ _ _ ?_;clear hK K;refine W.ret ?_;simp only[go_sem]
   rw[bad hpn];rfl
  |true=>
  rw[hyn,if_pos rfl] at hyb;rw[hyn,Bool.true_and] at hpn;obtain⟨b,hb⟩:=fc_get (l:=null) (n:=y.n) (by omega) (by omega);have hyi:0≤y.n:=by omega
  simp only[go_sem,hyn,a1,hb,hyi];refine hK _ _ _ ?_
  first|clear hK K|clear hK|skip
  by_cases hz:rk null y.n=0
  ·rw[decide_eq_true hz] at hpn;refine W.condT (by simp only[go_sem,decide_eq_true hz]) ?_;refine W.rseq (k:=1) rfl fun K hK=>?_;simp only[go_sem];refine hK _ _ _ ?_;clear hK K;refine W.ret ?_;simp only[go_sem]
   rw[bad hpn];rfl
  ·rw[decide_eq_false hz] at hpn;refine W.condF (by simp only[go_sem,decide_eq_false hz]) ?_;refine W.skip ?_;simp only[go_sem];exact nx2 _ _ _ (by omega) hpn (by simp only[go_sem,z0,i5]) (by simp only[go_sem,z1,i6]) ⟨a1,a3,a5⟩ i8
 ·refine W.exit ?_;simp only[go_sem];have hj:j=k:=by simp at hc;omega
  rw[hj] at i4;exact nx _ _ _ (by omega) i4 i5 i6 ⟨a1,a3,a5⟩
set_option maxHeartbeats 4000000 in
theorem fz162 (g:Gr) (hg:g.Small) (hr:right g=true) (x:Lf) (hx:x∈stepsG g):PF pg Tq 162 [.agg (eGr g),.agg (eLf x)] (.int .i64 x.to):=by
 obtain⟨⟨hn1,hn2⟩,_,_,hp60,h5⟩:=right_in hr;obtain⟨p,s,hp,hs,h1,h2,h3⟩:=steps_at hx;have hi:x.prod<g.prods.length:=(List.getElem?_eq_some_iff.1 hp).1;have hk:x.dot<p.right.length:=(List.getElem?_eq_some_iff.1 hs).1;have hsy:=(h5 p (List.mem_of_getElem? hp)).2.2 s (List.mem_of_getElem? hs);have hto:s.n=(x.to:Int):=by omega
 have fin:FH pg Tq 162 [.agg (eGr g),.agg (eLf x)] h0 0 fun r h n=>r=.int .i64 x.to:=by
  refine FH.of (N:=17) (rs:=#[.tmp 4]) Tryz.func162 rfl rfl (of_decide_eq_true rfl) rfl (by decide) ?_;refine W.rseq (k:=3) rfl fun K hK=>?_;simp only[go_sem];refine hK _ _ _ ?_;clear hK K;refine W.dseq (k:=13) rfl fun K hK=>?_;simp only[go_sem,hp,hs,hto];refine hK _ _ _ _ (by kernel_rfl) ?_;clear hK K;refine W.ret ?_;simp only[go_sem]
 obtain⟨r,h',n',hb,rfl⟩:=fin;exact⟨_,h',n',hb,1,fun fr=>rfl⟩
def SlN {α:Type} (e:α→List AV) (sz:Nat) (h:Heap) (lo n:Nat) (v:AV) (l:List α):Prop:=(l=[]∧v=.emn)∨SlL e sz h lo n v l
theorem SlN.next {α:Type} {e:α→List AV} {sz:Nat} {h h':Heap} {lo lo' n n':Nat} {v v':AV} {l:List α} (c:SlN e sz h lo n v l) (hv:v'=v) (hh:∀x,lo≤x→x<n→h' x=h x) (hn:n≤n') (hl:lo'≤lo):SlN e sz h' lo' n' v' l:=
 c.imp (fun q=>⟨q.1,hv.trans q.2⟩) fun c=>c.next hv hh hn hl
theorem SlN.frz {α:Type} {e:α→List AV} {sz:Nat} {fr:Bool} {h:Heap} {lo n d:Nat} {v:AV} {l:List α} (c:SlN e sz h lo n v l) (he:∀x∈l,rfs fr d h (e x)=some (e x)):rf fr (d+2) h v=some (.ro (l.map e)):=by
 rcases c with ⟨rfl,rfl⟩|c
 ·simp[rf]
 ·exact c.frz he
set_option maxHeartbeats 8000000 in
theorem fz161 (g:Gr) (hg:g.Small) (hr:right g=true):PF pg Tq 161 [.agg (eGr g)] (.ro ((stepsG g).map eLf)):=by
 obtain⟨⟨hn1,hn2⟩,_,_,hp60,h5⟩:=right_in hr;obtain⟨null,hnull⟩:∃null,null=ranksL g false:=⟨_,rfl⟩;have hnl:(null.length:Int)=g.nons:=by rw[hnull];exact(ranks_fin (terms:=false) hr).1
 have h31:=OwnFc.pf (fz36 g hg false);rw[←ranks_same,←hnull] at h31;have hsG:stepsG g=stepsF null g.prods.zipIdx:=by rw[stepsG,hnull]
 have fin:FH pg Tq 161 [.agg (eGr g)] h0 0 fun r h n=>SlN eLf 2 h 0 n r (stepsG g):=by
  refine FH.of (N:=41) (rs:=#[.tmp 2]) Tryz.func161 rfl rfl (of_decide_eq_true rfl) rfl (by decide) ?_;refine W.rseq (k:=2) rfl fun K hK=>?_;simp only[go_sem];refine hK _ _ _ ?_;clear hK K;refine W.rseq (k:=2) rfl fun K hK=>?_;simp only[go_sem];refine hK _ _ _ ?_;clear hK K;refine W.rseq (k:=3) rfl fun K hK=>?_;simp only[go_sem];refine VCall.frz 6 h31 rfl ?_;try simp only[go_sem];refine hK _ _ _ ?_;clear hK K;refine W.seqk fun K hK=>?_;refine W.rseq (k:=1) rfl fun K hK=>?_;simp only[go_sem];refine hK _ _ _ ?_;clear hK K
  have nx0:∀(t':Fr) (h':Heap) (n':Nat),SlN eLf 2 h' 1 n' (t' 3) (stepsG g)→K t' h' n':=by
   intro t' h' n' e1;refine hK _ _ _ ?_;clear hK K;refine W.rseq (k:=2) rfl fun K hK=>?_;simp only[go_sem];refine hK _ _ _ ?_;clear hK K;refine W.ret ?_;simp only[go_sem]
   exact e1.next rfl (fun x hx hx'=>rfl) (by omega) (by omega)
  clear hK
  refine W.block (W.while (fun m t h n=>∃(i:Nat) (L:List Lf),m=g.prods.length - i∧i≤g.prods.length∧0<n∧L.length≤8*i∧L++stepsF null (g.prods.zipIdx.drop i)=stepsG g∧h 0=some (.cells [eGr g])∧SlN eLf 2 h 1 n (t 3) L∧(t 1=.ptr 0 0 0∧t 4=.ro (null.map eFc))∧t 5=.int .i64 i) g.prods.length
   ⟨0,[],by simp,by simp,by omega,by simp,by rw[hsG];rfl,by simp only[go_sem],.inl ⟨rfl,rfl⟩,⟨rfl,rfl⟩,rfl⟩ fun m t h n ⟨i,L,i1,i2,i3,i4,i5,i6,i7,i8,i9⟩=>?_)
  have i8':=i8;obtain⟨a1,a4⟩:=i8';refine W.seq ?_;refine W.rseq (k:=5) rfl fun K hK=>?_;simp only[go_sem,i9,a1,i6];refine hK _ _ _ ?_;clear hK K
  refine W.cond rfl (fun hc=>?_) fun hc=>?_
  ·refine W.skip ?_;simp only[go_sem];have hi:i<g.prods.length:=by simp at hc;omega
   obtain⟨p,hp⟩:=get_some hi;have hm:p∈g.prods:=List.mem_of_getElem? hp;obtain⟨⟨hl0,hl1⟩,h8,hsy⟩:=h5 p hm;obtain⟨R,hR⟩:∃R,R=stepsF null (g.prods.zipIdx.drop (i+1)):=⟨_,rfl⟩;have hF:stepsF null (g.prods.zipIdx.drop i)=stepsP null i p.left.toNat p.right 0++R:=by rw[zip_drop hp,hR];rfl
   rw[hF,←List.append_assoc] at i5;refine W.seqk fun K hK=>?_
   have nx:∀(t':Fr) (h':Heap) (n':Nat) (L':List Lf),0<n'→L'.length≤8*i+8→L'++R=stepsG g→h' 0=some (.cells [eGr g])→SlN eLf 2 h' 1 n' (t' 3) L'→(t' 1=.ptr 0 0 0∧t' 4=.ro (null.map eFc))→t' 5=.int .i64 i→K t' h' n':=by
    intro t' h' n' L' e1 e2 e3 e4 e5 e6 e7;refine hK _ _ _ ?_;clear hK K;refine W.region (k:=3) rfl ?_;simp only[go_sem,e7];refine⟨g.prods.length - (i+1),by omega,i+1,L',rfl,by omega,by omega,by omega,by rw[←hR];exact e3,e4,e5.next rfl (fun x hx hx'=>rfl) (by omega) (Nat.le_refl _),e6, ?_⟩;rw[wrap64 (by omega) (by omega)];rfl
   clear hK;refine W.block ?_;refine W.rseq (k:=1) rfl fun K hK=>?_;simp only[go_sem];refine hK _ _ _ ?_;clear hK K
   refine W.block (W.while (fun m t h n=>∃(k:Nat) (L:List Lf),m=p.right.length - k∧k≤p.right.length∧0<n∧L.length≤8*i+k∧L++(if preB null p.right k=true then stepsP null i p.left.toNat (p.right.drop k) k else [])++R=stepsG g∧h 0=some (.cells [eGr g])∧SlN eLf 2 h 1 n (t 3) L∧(t 1=.ptr 0 0 0∧t 4=.ro (null.map eFc))∧t 5=.int .i64 i∧t 6=.int .i64 k) p.right.length
    ⟨0,L,by simp,by simp,by omega,by omega,by simpa[preB] using i5,i6,i7.next rfl (fun x hx hx'=>rfl) (by omega) (Nat.le_refl _),i8,i9,rfl⟩ fun m t h n ⟨k,L,k1,k2,k3,k4,k5,k6,k7,k8,k9,k10⟩=>?_)
   clear a1 a4;have k8':=k8;obtain⟨a1,a4⟩:=k8';refine W.seq ?_;refine W.rseq (k:=9) rfl fun K hK=>?_;simp only[go_sem,k9,k10,a1,k6,hp];refine hK _ _ _ ?_;clear hK K
   refine W.cond rfl (fun hc2=>?_) fun hc2=>?_
   ·refine W.skip ?_;simp only[go_sem];have hk:k<p.right.length:=by simp at hc2;omega
    obtain⟨sy,hs⟩:=get_some hk;have hsm:=List.mem_of_getElem? hs
    have hsd:p.right.drop k=sy::p.right.drop (k+1):=by
     rw[List.drop_eq_getElem_cons hk]
     congr 1
     exact(List.getElem_eq_iff hk).2 hs
    have hpn:=pre_next (null:=null) hs;have hsy2:=hsy sy hsm;have h144:=fz223 g hg hr null hnl i k p hp sy hs;rw[hsd,stepsP] at k5;refine W.seqk fun K hK=>?_
    have nx2:∀(t':Fr) (h':Heap) (n':Nat) (L':List Lf),0<n'→L'.length≤8*i+(k+1)→L'++(if preB null p.right (k+1)=true then stepsP null i p.left.toNat (p.right.drop (k+1)) (k+1) else [])++R=stepsG g→h' 0=some (.cells [eGr g])→SlN eLf 2 h' 1 n' (t' 3) L'→(t' 1=.ptr 0 0 0∧t' 4=.ro (null.map eFc))→t' 5=.int .i64 i→t' 6=.int .i64 k→K t' h' n':=by
     intro t' h' n' L' e1 e2 e3 e4 e5 e6 e7 e8;refine hK _ _ _ ?_;clear hK K;refine W.region (k:=3) rfl ?_;simp only[go_sem,e8];refine⟨p.right.length - (k+1),by omega,k+1,L',rfl,by omega,by omega,by omega,by simpa only[List.append_assoc] using e3,e4,e5.next rfl (fun x hx hx'=>rfl) (by omega) (Nat.le_refl _),e6,e7, ?_⟩;rw[wrap64 (by omega) (by omega)];rfl
    clear hK;refine W.block ?_;refine W.rseq (k:=6) rfl fun K hK=>?_;simp only[go_sem,a1,a4,k6,k9,k10];refine VCall.frz 6 h144 rfl ?_;simp only[go_sem];refine hK _ _ _ ?_
    first|clear hK K|clear hK|skip
    cases hq:preB null p.right k && sy.non with
    |false=>
     refine W.condF (by simp only[go_sem]) ?_;refine W.skip ?_;simp only[go_sem];have hq2:preB null p.right (k+1)=false:=by rw[hpn,←Bool.and_assoc,hq];rfl
     refine nx2 _ _ _ L (by omega) (by omega) ?_ k6 (k7.next rfl (fun x hx hx'=>rfl) (by omega) (Nat.le_refl _)) k8 k9 k10;rw[hq2];cases h1:preB null p.right k
     ·rw[h1] at k5;simpa using k5
     ·rw[h1,Bool.true_and] at hq;rw[h1,hq] at k5;simpa using k5
    |true=>
     rw[Bool.and_eq_true] at hq;obtain⟨h1,h2⟩:=hq;rw[h1,h2,Bool.true_and,Bool.true_and] at hpn;rw[h1,h2,if_pos rfl,if_pos rfl] at k5;rw[h2,if_pos rfl] at hsy2;refine W.condT (by simp only[go_sem]) ?_;obtain⟨x,hx⟩:∃x:Lf,x=⟨i,k,p.left.toNat,sy.n.toNat⟩:=⟨_,rfl⟩;have hML:(L++[x]).map eLf=L.map eLf++[[.int .i64 i,.int .i64 k]]:=by rw[List.map_append,hx];rfl
     have z0:∀j,¬0=n+j:=fun j=>by omega
     have hnew:(L++[x])++(if preB null p.right (k+1)=true then stepsP null i p.left.toNat (p.right.drop (k+1)) (k+1) else [])++R=stepsG g:=by
      rw[←k5,hpn,hx];by_cases hz:rk null sy.n=0
      ·simp[hz]
      ·simp[hz]
     refine W.region (k:=7) rfl ?_;rcases k7 with ⟨w0,w5⟩|⟨w0,w5⟩|⟨b,w5,w1,w2,w3⟩
     ·simp only[go_sem,w5,k9,k10,ne_eq,not_false_eq_true,Int.reduceEq,show(0:Nat)<1 by omega,show(0:Nat)<2 by omega,show(0:Nat)<16 by omega];refine nx2 _ _ _ (L++[x]) (by omega) (by simp;omega) hnew (by simp only[go_sem,z0,k6]) (.inr (.inr ⟨n+20,by rw[w0];rfl,by omega,by omega,by rw[hML,w0];simp only[go_sem];rfl⟩)) k8 k9 k10
     ·simp only[go_sem,w5,k9,k10,ne_eq,not_false_eq_true,Int.reduceEq,show(0:Nat)<1 by omega,show(0:Nat)<2 by omega,show(0:Nat)<16 by omega];refine nx2 _ _ _ (L++[x]) (by omega) (by simp;omega) hnew (by simp only[go_sem,z0,k6]) (.inr (.inr ⟨n+20,by rw[w0];rfl,by omega,by omega,by rw[hML,w0];simp only[go_sem];rfl⟩)) k8 k9 k10
     ·have zb:∀j,¬b=n+j:=fun j=>by omega
      have z0b:¬0=b:=by omega
      simp only[go_sem,w5,w3,zb,k9,k10,Nat.lt_irrefl,and_false,if_false,ne_eq,not_false_eq_true,Int.reduceEq,show(0:Nat)<1 by omega,show(0:Nat)<2 by omega,show(0:Nat)<16 by omega,show(L.length+1)*16≤140737488355328 by omega];refine nx2 _ _ _ (L++[x]) (by omega) (by simp;omega) hnew (by simp only[go_sem,z0,z0b,k6]) (.inr (.inr ⟨n+20,by rw[List.length_append];rfl,by omega,by omega,by rw[hML];simp only[go_sem]⟩)) k8 k9 k10
   ·refine W.exit ?_;simp only[go_sem];have hk:k=p.right.length:=by simp at hc2;omega
    subst hk;rw[List.drop_length,stepsP] at k5;refine nx _ _ _ L (by omega) (by omega) (by simpa using k5) k6 (k7.next rfl (fun x hx hx'=>rfl) (by omega) (Nat.le_refl _)) k8 k9
  ·refine W.exit ?_;simp only[go_sem];have hi:i=g.prods.length:=by simp at hc;omega
   subst hi;have hz:g.prods.zipIdx.drop g.prods.length=[]:=List.drop_eq_nil_of_le (by simp);rw[hz,stepsF,List.flatMap_nil,List.append_nil] at i5;refine nx0 _ _ _ ?_;rw[←i5];exact i7.next rfl (fun x hx hx'=>rfl) (by omega) (Nat.le_refl _)
 obtain⟨r,h',n',hb,ho⟩:=fin;exact⟨_,h',n',hb,5,fun fr=>ho.frz (d:=3) fun x _=>by simp[rfs,rf,eLf]⟩
end Go.Av
namespace Go.Av
open Go.Proofs
set_option maxRecDepth 100000
theorem Pth.split {L:List Lf} {b:Nat} {m:List Lf}:∀{a:Nat} {l:List Lf},Pth L a b (l++m)→∃c,Pth L a c l∧Pth L c b m
 |a,[],h=>⟨a,rfl,h⟩
 |a,x::l,h=>by
  obtain⟨h1,h2,h3⟩:=h;obtain⟨c,h4,h5⟩:=Pth.split h3;exact⟨c,⟨h1,h2,h4⟩,h5⟩
theorem nodup_lt:∀(M:Nat) (l:List Nat),l.Nodup→(∀x∈l,x<M)→l.length≤M
 |0,l,_,h=>by
  cases l with
  |nil=>simp
  |cons x l=>exact absurd (h x (by simp)) (by omega)
 |M+1,l,hn,h=>by
  have h1:=nodup_lt M (l.erase M) (hn.erase M) fun x hx=>by
   have h2:=(hn.mem_erase_iff).1 hx;have h3:=h x h2.2;omega
  by_cases hm:M∈l
  ·rw[List.length_erase_of_mem hm] at h1;omega
  ·rw[List.erase_of_not_mem hm] at h1;omega
theorem Pth.short {L:List Lf} {M b:Nat} (hL:LIn M L):∀(k:Nat) (l:List Lf) (a:Nat),l.length≤k→l≠[]→Pth L a b l→∃l',l'≠[]∧l'.length≤M∧Pth L a b l'
 |0,l,a,hk,hne,_=>absurd (List.length_eq_zero_iff.1 (by omega)) hne
 |k+1,l,a,hk,hne,hp=>by
  by_cases hM:l.length≤M
  ·exact⟨l,hne,hM,hp⟩
  ·have hin:∀x∈l.map Lf.frm,x<M:=by
    intro x hx;obtain⟨y,hy,rfl⟩:=List.mem_map.1 hx
    have:∀(l:List Lf) (a:Nat),Pth L a b l→∀y∈l,y∈L:=by
     intro l
     induction l with
     |nil=>intro a _ y hy;cases hy
     |cons z l ih=>
      intro a h y hy;rcases List.mem_cons.1 hy with rfl|hy
      ·exact h.1
      ·exact ih _ h.2.2 y hy
    exact(hL y (this l a hp y hy)).1
   have hnd:¬(l.map Lf.frm).Nodup:=fun hn=>by
    have:=nodup_lt M _ hn hin;rw[List.length_map] at this;omega
   have:∃i j:Nat,i<j∧∃(x y:Lf),l[i]?=some x∧l[j]?=some y∧x.frm=y.frm:=by
    refine Classical.byContradiction fun hc=>hnd ?_
    refine List.pairwise_iff_getElem.2 fun i j hi hj hij he=>hc ⟨i,j,hij,l[i]'(by simpa using hi),l[j]'(by simpa using hj),by simp,by simp,by simpa using he⟩
   obtain⟨i,j,hij,x,y,hx,hy,he⟩:=this;have hj:j<l.length:=(List.getElem?_eq_some_iff.1 hy).1;have hi:i<l.length:=by omega
   have e1:l.drop i=x::l.drop (i+1):=by
    rw[List.drop_eq_getElem_cons hi];congr 1;exact(List.getElem_eq_iff hi).2 hx
   have e2:l.drop j=y::l.drop (j+1):=by
    rw[List.drop_eq_getElem_cons hj];congr 1;exact(List.getElem_eq_iff hj).2 hy
   have p1:=hp;rw[←List.take_append_drop i l] at p1;obtain⟨c,q1,q2⟩:=p1.split;rw[e1] at q2;have p2:=hp;rw[←List.take_append_drop j l] at p2;obtain⟨d,q3,q4⟩:=p2.split;rw[e2] at q4;have hcd:d=c:=by rw[←q2.2.1,←q4.2.1,he]
   subst hcd;rw[←e2] at q4;refine Pth.short hL k (l.take i++l.drop j) a ?_ ?_ (Pth.app q4 q1)
   ·rw[List.length_append,List.length_take,List.length_drop];omega
   ·rw[e2];simp
def Bst (L:List Lf) (to r a:Nat) (l:List Lf):Prop:=
 (l≠[]→l.length≤r∧Pth L a to l)∧∀l',l'≠[]→l'.length≤r→Pth L a to l'→l≠[]∧l.length≤l'.length
theorem bst_zero {L:List Lf} {to a:Nat}:Bst L to 0 a []:=⟨fun h=>absurd rfl h,fun l' h1 h2 _=>absurd (List.length_eq_zero_iff.1 (by omega)) h1⟩
theorem Bst.up {L:List Lf} {to r a:Nat} {l:List Lf} (h:Bst L to r a l) (hl:l≠[]):Bst L to (r+1) a l:=
 ⟨fun _=>⟨by have:=(h.1 hl).1;omega,(h.1 hl).2⟩,fun l' h1 h2 h3=>⟨hl,by
  by_cases hr:l'.length≤r
  ·exact(h.2 l' h1 hr h3).2
  ·have:=(h.1 hl).1;omega⟩⟩
def Tk (ls:Nat→List Lf) (to r:Nat) (x:Lf):Prop:=(r=0∧x.to=to)∨(0<r∧(ls x.to).length=r)
theorem Bst.new {L:List Lf} {to r a:Nat} {l:List Lf} (h:Bst L to r a []) (hl:l.length=r+1) (hp:Pth L a to l):Bst L to (r+1) a l:=by
 have hne:l≠[]:=fun e=>by rw[e] at hl;cases hl
 refine⟨fun _=>⟨by omega,hp⟩,fun l' h1 h2 h3=>⟨hne, ?_⟩⟩;by_cases hr:l'.length≤r
 ·exact absurd rfl (h.2 l' h1 hr h3).1
 ·omega
theorem Bst.none {L:List Lf} {M to r a:Nat} {ls:Nat→List Lf} (hL:LIn M L) (h:∀b,b<M→Bst L to r b (ls b)) (ha:a<M) (hl:ls a=[]) (hx:∀x∈L,x.frm=a→¬Tk ls to r x):Bst L to (r+1) a []:=by
 refine⟨fun e=>absurd rfl e,fun l' h1 h2 h3=>?_⟩;have hb:=h a ha;rw[hl] at hb;by_cases hr:l'.length≤r
 ·exact hb.2 l' h1 hr h3
 exfalso
 cases l' with
 |nil=>exact h1 rfl
 |cons x l''=>
  obtain⟨q1,q2,q3⟩:=h3;rw[List.length_cons] at h2 hr;refine hx x q1 q2 ?_;by_cases h0:r=0
  ·have:l''=[]:=List.length_eq_zero_iff.1 (by omega);subst this;exact .inl ⟨h0,q3⟩
  ·have hne:l''≠[]:=fun e=>by rw[e] at hr;simp at hr;omega
   have hbx:=h x.to (hL x q1).2;obtain⟨w1,w2⟩:=hbx.2 l'' hne (by omega) q3;obtain⟨w3,w4⟩:=hbx.1 w1;refine .inr ⟨by omega, ?_⟩;by_cases hlt:(ls x.to).length=r
   ·exact hlt
   ·exfalso;exact(hb.2 (x::ls x.to) (by simp) (by rw[List.length_cons];omega) ⟨q1,q2,w4⟩).1 rfl
theorem bst_cyc {g:Gr} (hr:right g=true) {a:Nat} {l:List Lf} (h:Bst (stepsG g) a g.nons.toNat a l):decide (0<l.length)=cycB g a:=by
 cases hc:cycB g a
 ·refine decide_eq_false fun h0=>?_
  have:=cycB_iff.2 ⟨l,List.length_pos_iff.1 h0,(h.1 (List.length_pos_iff.1 h0)).2⟩;rw[hc] at this;cases this
 ·obtain⟨l1,q1,q2⟩:=cycB_iff.1 hc;obtain⟨l2,q3,q4,q5⟩:=Pth.short (steps_in hr) l1.length l1 a (Nat.le_refl _) q1 q2;exact decide_eq_true (List.length_pos_iff.2 (h.2 l2 q3 q4 q5).1)
end Go.Av
namespace Go.Av
open Go.Proofs
set_option maxRecDepth 100000
def tabV (M:Nat) (bv:Nat→AV):List (List AV):=(List.range M).map fun c=>[bv c]
theorem tab_len {M:Nat} {bv:Nat→AV}:(tabV M bv).length=M:=by simp[tabV]
theorem tab_get {M a:Nat} {bv:Nat→AV} (h:a<M):(tabV M bv)[a]?=some [bv a]:=by simp[tabV,h]
theorem tab_set {M a:Nat} {bv:Nat→AV} {v:AV}:(tabV M bv).set a [v]=tabV M fun c=>if c=a then v else bv c:=by
 unfold tabV;refine List.ext_getElem? fun c=>?_
 rw[List.getElem?_set];by_cases hc:c<M
 ·by_cases e:a=c
  ·subst e;simp[hc]
  ·rw[if_neg e];simp[hc,Ne.symm e]
 ·have h1:¬a=c∨¬a<M:=by omega
  by_cases e:a=c
  ·subst e;simp[hc]
  ·rw[if_neg e];simp[hc]
theorem tab_nil {M:Nat}:List.replicate M [AV.nils]=tabV M fun _=> .nils:=by
 unfold tabV;refine List.ext_getElem? fun c=>?_
 by_cases hc:c<M<;>simp[hc]
def SlT (h:Heap) (n B:Nat) (v:AV) (l:List Lf):Prop:=SlL eLf 2 h 1 n v l∧∀b k,v=.sl b 0 k 2→b≠B
theorem SlT.next {h h':Heap} {n n' B:Nat} {v:AV} {l:List Lf} (s:SlT h n B v l) (hh:∀x,x<n→x≠B→h' x=h x) (hn:n≤n'):SlT h' n' B v l:=by
 refine⟨?_,s.2⟩;rcases s.1 with c|⟨b,c1,c2,c3,c4⟩
 ·exact .inl c
 ·exact .inr ⟨b,c1,c2,by omega,by rw[hh b c3 (s.2 b _ c1)];exact c4⟩
theorem stepsP_len {null:List Fc} {i left:Nat}:∀(r:List Sy) (k:Nat),(stepsP null i left r k).length≤r.length
 |[],k=>by simp[stepsP]
 |s::r,k=>by
  rw[stepsP];split
  ·rw[List.length_cons,List.length_cons];split
   ·simp
   ·have:=stepsP_len (null:=null) (i:=i) (left:=left) r (k+1);omega
  ·simp
theorem stepsF_len {null:List Fc}:∀(l:List (Pr×Nat)),(∀x∈l,x.1.right.length≤8)→(stepsF null l).length≤8*l.length
 |[],_=>by simp[stepsF]
 |x::l,h=>by
  have h1:=stepsF_len (null:=null) l fun y hy=>h y (by simp[hy])
  have h2:=stepsP_len (null:=null) (i:=x.2) (left:=x.1.left.toNat) x.1.right 0;have h3:=h x (by simp);rw[stepsF] at h1 ⊢;rw[List.flatMap_cons,List.length_append,List.length_cons];omega
theorem steps_len {g:Gr} (hr:right g=true):(stepsG g).length≤480:=by
 obtain⟨_,_,_,hp60,h5⟩:=right_in hr;have:=stepsF_len (null:=ranksL g false) g.prods.zipIdx fun x hx=>(h5 x.1 (by obtain⟨p,i⟩:=x;exact List.fst_mem_of_mem_zipIdx hx)).2.1
 rw[List.length_zipIdx] at this;rw[stepsG];omega
set_option maxHeartbeats 16000000 in
theorem fz98 (g:Gr) (hg:g.Small) (hr:right g=true) (non:Nat) (hnon:non<g.nons.toNat):∃l:List Lf,PF pg Tq 98 [.agg (eGr g),.int .i64 non] (.ro (l.map eLf))∧decide (0<l.length)=cycB g non:=by
 obtain⟨⟨hn1,hn2⟩,_,_,hp60,h5⟩:=right_in hr;have hLin:=steps_in hr;obtain⟨M,hM⟩:∃M,M=g.nons.toNat:=⟨_,rfl⟩;have hMn:g.nons=(M:Int):=by omega
 have hd1:¬((non:Int)<0):=by omega
 have hd2:¬((non:Int)≥g.nons):=by omega
 obtain⟨L,hL⟩:∃L,L=stepsG g:=⟨_,rfl⟩;have h128:=fz161 g hg hr;rw[←hM,←hL] at hLin;rw[←hL] at h128;have hLl:L.length≤480:=by rw[hL];exact steps_len hr
 rw[←hM] at hnon
 have fin:FH pg Tq 98 [.agg (eGr g),.int .i64 non] h0 0 fun r h n=>∃l,SlL eLf 2 h 0 n r l∧Bst L non M non l:=by
  refine FH.of (N:=117) (rs:=#[.tmp 4]) Tryz.func98 rfl rfl (of_decide_eq_true rfl) rfl (by decide) ?_;refine W.rseq (k:=2) rfl fun K hK=>?_;simp only[go_sem];refine hK _ _ _ ?_;clear hK K;refine W.seq ?_;refine W.rseq (k:=13) rfl fun K hK=>?_;simp only[go_sem,hr,decide_eq_false hd1,decide_eq_false hd2];refine VCall.frz 6 (fz24 g hg) rfl ?_;try simp only[go_sem,hr,decide_eq_false hd1,decide_eq_false hd2];refine hK _ _ _ ?_;clear hK K;refine W.condF (by simp only[go_sem]) ?_;refine W.skip ?_;simp only[go_sem];refine W.rseq (k:=3) rfl fun K hK=>?_;simp only[go_sem];refine VCall.frz 6 h128 rfl ?_;try simp only[go_sem];refine hK _ _ _ ?_;clear hK K;refine W.rseq (k:=4) rfl fun K hK=>?_;simp only[go_sem,show(0:Int)≤g.nons by omega,show g.nons*24≤140737488355328 by omega,show(0:Nat)<24 by omega,show(0:Nat)<1 by omega];refine hK _ _ _ ?_;clear hK K;refine W.seqk fun K hK=>?_
  refine W.rseq (k:=1) rfl fun K hK=>?_;simp only[go_sem];refine hK _ _ _ ?_;clear hK K
  rw[←hM,tab_nil]
  have nx0:∀(t':Fr) (h':Heap) (n':Nat) (B:Nat) (bv:Nat→AV) (ls:Nat→List Lf),h' B=some (.cells (tabV M bv))→(∀a,a<M→SlL eLf 2 h' 1 n' (bv a) (ls a)∧Bst L non M a (ls a))→t' 6=.sl B 0 M 1→t' 1=.int .i64 non→K t' h' n':=by
   intro t' h' n' B bv ls e1 e2 e3 e4;refine hK _ _ _ ?_;clear hK K;refine W.rseq (k:=5) rfl fun K hK=>?_;simp only[go_sem,e3,e4,e1,tab_get hnon,show(non:Int)<(M:Int) by omega];refine hK _ _ _ ?_;clear hK K;refine W.ret ?_;simp only[go_sem]
   obtain⟨q1,q2⟩:=e2 non hnon;exact⟨ls non,q1.next rfl (fun x hx hx'=>rfl) (by omega) (by omega),q2⟩
  clear hK
  refine W.block (W.while (fun m t h n=>∃(r B:Nat) (bv:Nat→AV) (ls:Nat→List Lf),m=M - r∧r≤M∧0<B∧B<n∧h B=some (.cells (tabV M bv))∧(∀a,a<M→SlL eLf 2 h 1 n (bv a) (ls a)∧Bst L non r a (ls a))∧h 0=some (.cells [eGr g])∧(t 1=.int .i64 non∧t 2=.ptr 0 0 0∧t 5=.ro (L.map eLf))∧t 6=.sl B 0 M 1∧t 7=.int .i64 ((r+1:Nat):Int)) M
   ⟨0,20,fun _=> .nils,fun _=>[],by simp,by omega,by omega,by omega,by simp only[go_sem],fun a ha=>⟨.inl ⟨rfl,rfl⟩,bst_zero⟩,by simp only[go_sem],⟨rfl,rfl,rfl⟩,rfl,rfl⟩ fun m t h n ⟨r,B,bv,ls,i1,i2,i3,i4,i5,i6,i7,i8,i9,i10⟩=>?_)
  have i8':=i8;obtain⟨a1,a2,a5⟩:=i8';refine W.seq ?_;refine W.rseq (k:=4) rfl fun K hK=>?_;simp only[go_sem,a2,i7,i10];refine hK _ _ _ ?_;clear hK K
  refine W.cond rfl (fun hc=>?_) fun hc=>?_
  ·refine W.skip ?_;simp only[go_sem];have hrM:r<M:=by simp at hc;omega
   refine W.seqk fun K hK=>?_
   have nx:∀(t':Fr) (h':Heap) (n':Nat) (B:Nat) (bv:Nat→AV) (ls:Nat→List Lf),0<B→B<n'→h' B=some (.cells (tabV M bv))→(∀a,a<M→SlL eLf 2 h' 1 n' (bv a) (ls a)∧Bst L non (r+1) a (ls a))→h' 0=some (.cells [eGr g])→(t' 1=.int .i64 non∧t' 2=.ptr 0 0 0∧t' 5=.ro (L.map eLf))→t' 6=.sl B 0 M 1→t' 7=.int .i64 ((r+1:Nat):Int)→K t' h' n':=by
    intro t' h' n' B bv ls e1 e2 e3 e4 e5 e6 e7 e8;refine hK _ _ _ ?_;clear hK K;refine W.region (k:=3) rfl ?_;simp only[go_sem,e8];refine⟨M - (r+1),by omega,r+1,B,bv,ls,rfl,by omega,e1,by omega,e3,fun a ha=>⟨(e4 a ha).1.next rfl (fun x hx hx'=>rfl) (by omega) (Nat.le_refl _),(e4 a ha).2⟩,e5,e6,e7, ?_⟩;rw[wrap64 (by omega) (by omega)];rfl
   clear hK;refine W.block ?_;have hM0:¬M=0:=by omega
   have zB:∀j,¬B=n+j:=fun j=>by omega
   have z0:∀j,¬0=n+j:=fun j=>by omega
   have tk:(tabV M bv).take M=tabV M bv:=List.take_of_length_le (by rw[tab_len];exact Nat.le_refl _)
   have te:(tabV M bv).isEmpty=false:=by
    rw[List.isEmpty_eq_false_iff];intro e;have:=tab_len (M:=M) (bv:=bv);rw[e] at this;simp at this;omega
   refine W.rseq (k:=4) rfl fun K hK=>?_;simp only[go_sem,i9,i5,tk,te,tab_len,hM0,zB,show M*24≤140737488355328 by omega,Bool.false_eq_true,if_false];refine hK _ _ _ ?_;clear hK K
   obtain⟨B8,hB8⟩:∃B8,B8=n+6:=⟨_,rfl⟩;rw[←hB8];have z08:¬0=B8:=by omega
   have zB8:¬B=B8:=by omega
   refine W.seqk fun K hK=>?_;refine W.rseq (k:=1) rfl fun K hK=>?_;simp only[go_sem];refine hK _ _ _ ?_;clear hK K
   have nx1:∀(t':Fr) (h':Heap) (n':Nat) (bv':Nat→AV) (ls':Nat→List Lf),B8<n'→h' B8=some (.cells (tabV M bv'))→(∀a,a<M→SlT h' n' B8 (bv' a) (ls' a)∧Bst L non (r+1) a (ls' a))→h' 0=some (.cells [eGr g])→(t' 1=.int .i64 non∧t' 2=.ptr 0 0 0∧t' 5=.ro (L.map eLf))→t' 8=.sl B8 0 M 1→t' 7=.int .i64 ((r+1:Nat):Int)→K t' h' n':=by
    intro t' h' n' bv' ls' e1 e2 e3 e4 e5 e6 e7;refine hK _ _ _ ?_;clear hK K;refine W.region (k:=2) rfl ?_;simp only[go_sem,e6];refine nx _ _ _ B8 bv' ls' (by omega) (by omega) e2 (fun a ha=>⟨(e3 a ha).1.1.next rfl (fun x hx hx'=>rfl) (by omega) (Nat.le_refl _),(e3 a ha).2⟩) e4 e5 rfl e7
   clear hK nx
   refine W.block (W.while (fun m t h1 n1=>∃(a:Nat) (bv':Nat→AV) (ls':Nat→List Lf),m=M - a∧a≤M∧B8<n1∧(∀x,x<B8→h1 x=h x)∧h1 B8=some (.cells (tabV M bv'))∧(∀c,c<M→SlT h1 n1 B8 (bv' c) (ls' c))∧(∀c,c<a→Bst L non (r+1) c (ls' c))∧(∀c,a≤c→ls' c=ls c)∧(t 1=.int .i64 non∧t 2=.ptr 0 0 0∧t 5=.ro (L.map eLf)∧t 6=.sl B 0 M 1∧t 7=.int .i64 ((r+1:Nat):Int)∧t 8=.sl B8 0 M 1)∧t 9=.int .i64 a) M
    ⟨0,bv,ls,by simp,by omega,by omega,fun x hx=>by simp only[go_sem,show ¬x=B8 by omega],by simp only[go_sem],fun c hc=>⟨(i6 c hc).1.next rfl (fun x hx hx'=>by simp only[go_sem,show ¬x=B8 by omega]) (by omega) (Nat.le_refl _),fun b k hb=>?_⟩,fun c hc=>by omega,fun c hc=>rfl,⟨a1,a2,a5,i9,i10,rfl⟩,rfl⟩ fun m t h1 n1 ⟨a,bv',ls',j1,j2,j3,j4,j5,j6,j7,j8,j9,j10⟩=>?_)
   ·rcases(i6 c hc).1 with ⟨_,e⟩|⟨b',e,_,hb',_⟩
    ·rw[e] at hb;cases hb
    ·rw[e] at hb;cases hb;omega
   clear a1 a2 a5;have j9':=j9;obtain⟨a1,a2,a5,a6,a7,a8⟩:=j9';have j40:=j4 0 (by omega);rw[i7] at j40;refine W.seq ?_;refine W.rseq (k:=4) rfl fun K hK=>?_;simp only[go_sem,a2,j40,j10];refine hK _ _ _ ?_;clear hK K
   refine W.cond rfl (fun hc2=>?_) fun hc2=>?_
   ·refine W.skip ?_;simp only[go_sem];have haM:a<M:=by simp at hc2;omega
    refine W.seqk fun K hK=>?_
    have nx2:∀(t':Fr) (h':Heap) (n':Nat) (bv':Nat→AV) (ls':Nat→List Lf),B8<n'→(∀x,x<B8→h' x=h x)→h' B8=some (.cells (tabV M bv'))→(∀c,c<M→SlT h' n' B8 (bv' c) (ls' c))→(∀c,c<a+1→Bst L non (r+1) c (ls' c))→(∀c,a<c→ls' c=ls c)→(t' 1=.int .i64 non∧t' 2=.ptr 0 0 0∧t' 5=.ro (L.map eLf)∧t' 6=.sl B 0 M 1∧t' 7=.int .i64 ((r+1:Nat):Int)∧t' 8=.sl B8 0 M 1)→t' 9=.int .i64 a→K t' h' n':=by
     intro t' h' n' bv' ls' e1 e2 e3 e4 e5 e6 e7 e8;refine hK _ _ _ ?_;clear hK K;refine W.region (k:=3) rfl ?_;simp only[go_sem,e8];refine⟨M - (a+1),by omega,a+1,bv',ls',rfl,by omega,by omega,e2,e3,fun c hc=>(e4 c hc).next (fun x hx hx'=>rfl) (by omega),e5,fun c hc=>e6 c (by omega),e7, ?_⟩;rw[wrap64 (by omega) (by omega)];rfl
    clear hK;refine W.block ?_;refine W.rseq (k:=1) rfl fun K hK=>?_;simp only[go_sem];refine hK _ _ _ ?_;clear hK K
    refine W.block (W.while (fun m t h1 n1=>∃(j:Nat) (bv':Nat→AV) (ls':Nat→List Lf),m=L.length - j∧j≤L.length∧B8<n1∧(∀x,x<B8→h1 x=h x)∧h1 B8=some (.cells (tabV M bv'))∧(∀c,c<M→SlT h1 n1 B8 (bv' c) (ls' c))∧(∀c,c<a→Bst L non (r+1) c (ls' c))∧(∀c,a<c→ls' c=ls c)∧((ls' a≠[]→Bst L non (r+1) a (ls' a))∧(ls' a=[]→ls a=[]∧∀x∈L.take j,x.frm=a→¬Tk ls non r x))∧(t 1=.int .i64 non∧t 2=.ptr 0 0 0∧t 5=.ro (L.map eLf)∧t 6=.sl B 0 M 1∧t 7=.int .i64 ((r+1:Nat):Int)∧t 8=.sl B8 0 M 1)∧t 9=.int .i64 a∧t 10=.int .i64 j) L.length
     ⟨0,bv',ls',by simp,by omega,by omega,j4,j5,fun c hc=>(j6 c hc).next (fun x hx hx'=>rfl) (by omega),j7,fun c hc=>j8 c (by omega),⟨fun hne=>?_,fun he=>⟨by rw[←j8 a (Nat.le_refl _)];exact he,fun x hx=>by cases hx⟩⟩,j9,j10,rfl⟩ fun m t h1 n1 ⟨j,bv',ls',k1,k2,k3,k4,k5,k6,k7,k8,k9,k10,k11,k12⟩=>?_)
    ·have:=j8 a (Nat.le_refl _);rw[this] at hne ⊢;exact(i6 a haM).2.up hne
    clear a1 a2 a5 a6 a7 a8 j40;have k10':=k10;obtain⟨a1,a2,a5,a6,a7,a8⟩:=k10';have k40:=k4 0 (by omega);rw[i7] at k40;have kB:=k4 B (by omega);rw[i5] at kB;refine W.seq ?_;refine W.rseq (k:=12) rfl fun K hK=>?_
    have nx3:∀(t':Fr) (n':Nat),n1≤n'→(t' 1=.int .i64 non∧t' 2=.ptr 0 0 0∧t' 5=.ro (L.map eLf)∧t' 6=.sl B 0 M 1∧t' 7=.int .i64 ((r+1:Nat):Int)∧t' 8=.sl B8 0 M 1)→t' 9=.int .i64 a→t' 10=.int .i64 j→t' 56=.bool (decide (j<L.length) && decide ((ls' a).length=0))→K t' h1 n':=by
     intro t' n' e1 e2 e3 e4 e5;refine hK _ _ _ ?_;clear hK K;by_cases hgo:j<L.length∧(ls' a).length=0
     ·have e5':t' 56=.bool true:=by rw[e5,decide_eq_true hgo.1,decide_eq_true hgo.2];rfl
      refine W.condT (by simp only[go_sem,e5']) ?_;refine W.skip ?_;simp only[go_sem];obtain⟨hj,hle⟩:=hgo;have hle:ls' a=[]:=List.length_eq_zero_iff.1 hle;obtain⟨x,hx⟩:=get_some hj;have hxm:x∈stepsG g:=by rw[←hL];exact List.mem_of_getElem? hx
      obtain⟨p,s,hp,hs,q1,q2,q3⟩:=steps_at hxm;have hpl:p.left=(x.frm:Int):=by have:=(h5 p (List.mem_of_getElem? hp)).1.1;omega
      have h129:=fz162 g hg hr x hxm;obtain⟨r1,r2⟩:=k9.2 hle;have hBa:=(i6 a haM).2;rw[r1] at hBa;have ht1:L.take (j+1)=L.take j++[x]:=by rw[List.take_add_one,hx];rfl
      have hxt:x.to<M:=by rw[hM];exact(steps_in hr x hxm).2
      have z0:∀j,¬0=n'+j:=fun j=>by omega
      have zB:∀j,¬B=n'+j:=fun j=>by omega
      have z8:∀j,¬B8=n'+j:=fun j=>by omega
      refine W.seqk fun K hK=>?_
      have nxQ:∀(t'':Fr) (h'':Heap) (n'':Nat),n'≤n''→(∀y,y<n'→h'' y=h1 y)→(t'' 1=.int .i64 non∧t'' 2=.ptr 0 0 0∧t'' 5=.ro (L.map eLf)∧t'' 6=.sl B 0 M 1∧t'' 7=.int .i64 ((r+1:Nat):Int)∧t'' 8=.sl B8 0 M 1)→t'' 9=.int .i64 a→t'' 10=.int .i64 j→(x.frm=a→¬Tk ls non r x)→K t'' h'' n'':=by
       intro t'' h'' n'' f1 f2 f3 f4 f5 f6;refine hK _ _ _ ?_;clear hK K;refine W.region (k:=3) rfl ?_;simp only[go_sem,f5];refine⟨L.length - (j+1),by omega,j+1,bv',ls',rfl,by omega,by omega,fun y hy=>by rw[f2 y (by omega)];exact k4 y hy,by rw[f2 B8 (by omega)];exact k5,fun c hc=>(k6 c hc).next (fun y hy hy'=>f2 y (by omega)) (by omega),k7,k8,⟨k9.1,fun he=>⟨r1,fun y hy=>?_⟩⟩,f3,f4, ?_⟩
       ·rw[ht1] at hy;rcases List.mem_append.1 hy with hy|hy
        ·exact r2 y hy
        ·rw[List.mem_singleton.1 hy];exact f6
       ·rw[wrap64 (by omega) (by omega)];rfl
      have nxS:∀(t'':Fr) (h'':Heap) (n'':Nat) (v:AV) (l:List Lf),n'≤n''→(∀y,y<n'→y≠B8→h'' y=h1 y)→h'' B8=some (.cells (tabV M fun c=>if c=a then v else bv' c))→SlT h'' n'' B8 v l→l.length=r+1→Pth L a non l→(t'' 1=.int .i64 non∧t'' 2=.ptr 0 0 0∧t'' 5=.ro (L.map eLf)∧t'' 6=.sl B 0 M 1∧t'' 7=.int .i64 ((r+1:Nat):Int)∧t'' 8=.sl B8 0 M 1)→t'' 9=.int .i64 a→t'' 10=.int .i64 j→K t'' h'' n'':=by
       intro t'' h'' n'' v l f1 f2 f3 f4 f5 f6 f7 f8 f9;refine hK _ _ _ ?_;clear hK;refine W.region (k:=3) rfl ?_;simp only[go_sem,f9];refine⟨L.length - (j+1),by omega,j+1,_,(fun c=>if c=a then l else ls' c),rfl,by omega,by omega,fun y hy=>by rw[f2 y (by omega) (by omega)];exact k4 y hy,f3,fun c hc=>?_,fun c hc=>?_,fun c hc=>?_,⟨fun _=>?_,fun he=>?_⟩,f7,f8, ?_⟩
       ·by_cases e:c=a
        ·simp only[e,if_true];exact f4.next (fun y hy hy'=>rfl) (by omega)
        ·simp only[e,if_false];exact(k6 c hc).next (fun y hy hy'=>f2 y (by omega) hy') (by omega)
       ·simp only[show ¬c=a by omega,if_false];exact k7 c hc
       ·simp only[show ¬c=a by omega,if_false];exact k8 c hc
       ·simp only[if_true];exact hBa.new f5 f6
       ·simp only[if_true] at he;rw[he] at f5;cases f5
       ·rw[wrap64 (by omega) (by omega)];rfl
      clear hK;refine W.block ?_;clear a1 a2 a5 a6 a7 a8;have e1':=e2;obtain⟨a1,a2,a5,a6,a7,a8⟩:=e1';refine W.rseq (k:=6) rfl fun K hK=>?_;simp only[go_sem,a5,e4,hx];refine hK _ _ _ ?_;clear hK K;refine W.seq ?_;refine W.rseq (k:=9) rfl fun K hK=>?_;simp only[go_sem,a2,e3,z0,k40,hp,hpl];refine hK _ _ _ ?_;clear hK K
      by_cases hfa:¬x.frm=a
      ·refine W.condT (by simp only[go_sem,decide_eq_false (show ¬(x.frm:Int)=(a:Int) by omega)]) ?_;refine W.exit ?_;simp only[go_sem];exact nxQ _ _ _ (by omega) (fun y hy=>by simp only[go_sem,show ¬y=n'+4 by omega]) e2 e3 e4 (fun e=>absurd e hfa)
      have hfa:x.frm=a:=Decidable.not_not.1 hfa;refine W.condF (by simp only[go_sem,decide_eq_true (show(x.frm:Int)=(a:Int) by omega)]) ?_;refine W.skip ?_;simp only[go_sem];by_cases hr0:r=0
      ·subst hr0;refine W.seq ?_;refine W.rseq (k:=9) rfl fun K hK=>?_;simp only[go_sem,a7,a2,z0,k40,decide_eq_true (show((0+1:Nat):Int)=1 by omega)];refine VCall.frz 6 h129 rfl ?_
       by_cases hto:x.to=non
       ·simp only[go_sem,a1,decide_eq_true (show(x.to:Int)=(non:Int) by omega)];refine hK _ _ _ ?_
        first|clear hK K|clear hK|skip
        refine W.condT (by simp only[go_sem]) ?_;refine W.region (k:=6) rfl ?_;simp only[go_sem,a8,e3,z8,k5,tab_get haM,tab_len,show(a:Int)<(M:Int) by omega];refine W.rseq (k:=14) rfl fun K hK=>?_;simp only[go_sem,a7];refine hK _ _ _ ?_;clear hK K;refine W.condF (by simp only[go_sem]) ?_;refine W.skip ?_;simp only[go_sem]
        refine nxS _ _ _ (.sl (n'+27) 0 1 2) [x] (by omega) (fun y hy hy8=>by simp only[go_sem,show ∀j,¬y=n'+j from fun j=>by omega,hy8]) (by simp only[go_sem,←tab_set]) ⟨.inr ⟨n'+27,rfl,by omega,by omega,by simp only[go_sem,show ¬n'+27=B8 by omega];rfl⟩,fun b k hb=>by cases hb;omega⟩ rfl ⟨by rw[hL];exact hxm,hfa,hto⟩ e2 e3 e4
       ·simp only[go_sem,a1,decide_eq_false (show ¬(x.to:Int)=(non:Int) by omega)];refine hK _ _ _ ?_
        first|clear hK K|clear hK|skip
        refine W.condF (by simp only[go_sem]) ?_;refine W.skip ?_;simp only[go_sem];refine W.rseq (k:=14) rfl fun K hK=>?_;simp only[go_sem,a7];refine hK _ _ _ ?_;clear hK K;refine W.condF (by simp only[go_sem]) ?_;refine W.skip ?_;simp only[go_sem]
        exact nxQ _ _ _ (by omega) (fun y hy=>by simp only[go_sem,show ∀j,¬y=n'+j from fun j=>by omega]) e2 e3 e4 (fun _ hT=>by rcases hT with ⟨_,h⟩|⟨h,_⟩<;>omega)
      ·refine W.seq ?_;refine W.rseq (k:=9) rfl fun K hK=>?_;simp only[go_sem,a7,decide_eq_false (show ¬((r+1:Nat):Int)=1 by omega)];refine hK _ _ _ ?_;clear hK K;refine W.condF (by simp only[go_sem]) ?_;refine W.skip ?_;simp only[go_sem];refine W.rseq (k:=14) rfl fun K hK=>?_;simp only[go_sem,a7,a2,z0,k40,a6,zB,kB,decide_eq_true (show((r+1:Nat):Int)>1 by omega)];refine VCall.frz 6 h129 rfl ?_
       have hxM:(x.to:Int)<(M:Int):=by omega
       have hw1:IntKind.wrap .i64 (((r+1:Nat):Int) - 1)=r:=by rw[wrap64 (by omega) (by omega)];omega
       rcases(i6 x.to hxt).1 with ⟨w0,w5⟩|⟨b,w5,w1,w2,w3⟩
       ·simp only[go_sem,a6,zB,kB,tab_get hxt,hxM,w5,a7,hw1,decide_eq_false (show ¬(0:Int)=(r:Int) by omega)];refine hK _ _ _ ?_
        first|clear hK K|clear hK|skip
        refine W.condF (by simp only[go_sem]) ?_;refine W.skip ?_;simp only[go_sem]
        exact nxQ _ _ _ (by omega) (fun y hy=>by simp only[go_sem,show ∀j,¬y=n'+j from fun j=>by omega]) e2 e3 e4 (fun _ hT=>by
         rcases hT with ⟨h,_⟩|⟨_,h⟩
         ·omega
         ·rw[w0] at h;simp at h;omega)
       ·by_cases hlr:(ls x.to).length=r
        ·simp only[go_sem,a6,zB,kB,tab_get hxt,hxM,w5,a7,hw1,decide_eq_true (show((ls x.to).length:Int)=(r:Int) by omega)];refine hK _ _ _ ?_
         first|clear hK K|clear hK|skip
         refine W.condT (by simp only[go_sem]) ?_;have hkb:=k4 b (by omega);rw[w3] at hkb;have zb:∀j,¬b=n'+j:=fun j=>by omega
         have hxb:=(i6 x.to hxt).2.1 (fun e=>by rw[e] at hlr;simp at hlr;omega);have l0:∀j,(0<n'+j)=True:=fun j=>eq_true (by omega)
         have lB:∀j,(B<n'+j)=True:=fun j=>eq_true (by omega)
         have lb:∀j,(b<n'+j)=True:=fun j=>eq_true (by omega)
         refine W.draw (k:=13) rfl ?_;simp only[go_sem,l0,lB,lb,a8,e3,a6,a2,z0,k40];refine VCall.frz 6 h129 rfl ?_;have tk2:(List.map eLf (ls x.to)).take (ls x.to).length=List.map eLf (ls x.to):=List.take_of_length_le (by simp);simp only[go_sem,l0,lB,lb,a6,zB,z8,zb,kB,tab_get hxt,tab_get haM,hxM,w5,hkb,k5,tk2,List.length_map,show(1+(ls x.to).length)*16≤140737488355328 by omega,and_false,if_false,show n'≤n'+3 by omega,if_true,show(a:Int)<(M:Int) by omega];refine⟨by kernel_rfl, ?_⟩;refine nxS _ _ _ (.sl (n'+48) 0 (1+(ls x.to).length) 2) (x::ls x.to) (by omega) (fun y hy hy8=>by simp only[go_sem,show ∀j,¬y=n'+j from fun j=>by omega,hy8]) (by simp only[go_sem,←tab_set]) ⟨.inr ⟨n'+48,by rw[List.length_cons,Nat.add_comm (ls x.to).length],by omega,by omega,by simp only[go_sem,show ¬n'+48=B8 by omega];rfl⟩,fun b k hb=>by cases hb;omega⟩ (by rw[List.length_cons,hlr]) ⟨by rw[hL];exact hxm,hfa,hxb.2⟩ e2 e3 e4
        ·simp only[go_sem,a6,zB,kB,tab_get hxt,hxM,w5,a7,hw1,decide_eq_false (show ¬((ls x.to).length:Int)=(r:Int) by omega)];refine hK _ _ _ ?_
         first|clear hK K|clear hK|skip
         refine W.condF (by simp only[go_sem]) ?_;refine W.skip ?_;simp only[go_sem];exact nxQ _ _ _ (by omega) (fun y hy=>by simp only[go_sem,show ∀j,¬y=n'+j from fun j=>by omega]) e2 e3 e4 (fun _ hT=>by rcases hT with ⟨h,_⟩|⟨_,h⟩<;>omega)
     ·have e5':t' 56=.bool false:=by
       rw[e5];by_cases h1:j<L.length
       ·rw[decide_eq_false (fun h2=>hgo ⟨h1,h2⟩),Bool.and_false]
       ·rw[decide_eq_false h1];rfl
      refine W.condF (by simp only[go_sem,e5']) ?_;refine W.exit ?_;simp only[go_sem];refine nx2 _ _ _ bv' ls' (by omega) k4 k5 (fun c hc=>(k6 c hc).next (fun x hx hx'=>rfl) (by omega)) (fun c hc=>?_) k8 e2 e3;by_cases e:c=a
      ·subst e;by_cases hne:ls' c=[]
       ·obtain⟨q1,q2⟩:=k9.2 hne;rw[hne];refine Bst.none hLin (fun b hb=>(i6 b hb).2) haM q1 ?_
        have hj:j=L.length:=by
         by_cases h1:j<L.length
         ·exact absurd ⟨h1,by rw[hne];rfl⟩ hgo
         ·omega
        rw[hj,List.take_length] at q2;exact q2
       ·exact k9.1 hne
      ·exact k7 c (by omega)
    clear hK;by_cases hj:j<L.length
    ·have hja:(a:Int)<(M:Int):=by omega
     rcases(k6 a haM).1 with ⟨w0,w5⟩|⟨b,w5,w1,w2,w3⟩
     ·simp only[go_sem,k11,k12,a5,a8,k5,decide_eq_true (show(j:Int)<(L.length:Int) by omega),tab_get haM,hja,w5];exact nx3 _ _ (by omega) k10 k11 k12 (by rw[decide_eq_true hj,w0];rfl)
     ·simp only[go_sem,k11,k12,a5,a8,k5,decide_eq_true (show(j:Int)<(L.length:Int) by omega),tab_get haM,hja,w5];exact nx3 _ _ (by omega) k10 k11 k12 (by rw[decide_eq_true hj,Bool.true_and];exact congrArg AV.bool (decide_eq_decide.2 (by omega)))
    ·simp only[go_sem,k12,a5,decide_eq_false (show ¬(j:Int)<(L.length:Int) by omega)];exact nx3 _ _ (by omega) k10 k11 k12 (by rw[decide_eq_false hj];rfl)
   ·refine W.exit ?_;simp only[go_sem];have haM:a=M:=by simp at hc2;omega
    subst haM;refine nx1 _ _ _ bv' ls' (by omega) j5 (fun c hc=>⟨(j6 c hc).next (fun x hx hx'=>rfl) (by omega),j7 c hc⟩) j40 ⟨a1,a2,a5⟩ a8 a7
  ·refine W.exit ?_;simp only[go_sem];have hrM:r=M:=by simp at hc;omega
   subst hrM;exact nx0 _ _ _ B bv ls i5 (fun a ha=>⟨(i6 a ha).1.next rfl (fun x hx hx'=>rfl) (by omega) (Nat.le_refl _),(i6 a ha).2⟩) i9 a1
 obtain⟨r,h',n',hb,l,ho,hw⟩:=fin;rw[hM,hL] at hw;exact⟨l,⟨_,h',n',hb,5,fun fr=>ho.frz (d:=3) fun x _=>by simp[rfs,rf,eLf]⟩,bst_cyc hr hw⟩
end Go.Av
namespace Go.Av
open Go.Proofs
set_option maxRecDepth 100000
set_option maxHeartbeats 8000000 in
theorem fz37 (g:Gr) (hg:g.Small):PF pg Tq 37 [.agg (eGr g)] (.tup [.int .i64 (checkL g).1,.int .i64 (checkL g).2]):=by
 have fin:FH pg Tq 37 [.agg (eGr g)] h0 0 fun r h n=>r=.tup [.int .i64 (checkL g).1,.int .i64 (checkL g).2]:=by
  refine FH.of (N:=53) (rs:=#[.tmp 2,.tmp 3]) Tryz.func37 rfl rfl (of_decide_eq_true rfl) rfl (by decide) ?_;refine W.rseq (k:=3) rfl fun K hK=>?_;simp only[go_sem];refine hK _ _ _ ?_;clear hK K;refine W.seq ?_;refine W.rseq (k:=3) rfl fun K hK=>?_;simp only[go_sem];refine VCall.frz 6 (fz24 g hg) rfl ?_;try simp only[go_sem];refine hK _ _ _ ?_;clear hK K
  cases hr:right g
  ·refine W.condT (by simp only[go_sem,hr]) ?_;refine W.rseq (k:=2) rfl fun K hK=>?_;simp only[go_sem];refine hK _ _ _ ?_;clear hK K;refine W.ret ?_;simp only[go_sem]
   rw[checkL,hr];rfl
  refine W.condF (by simp only[go_sem,hr]) ?_;refine W.skip ?_;simp only[go_sem];obtain⟨⟨hn1,hn2⟩,_,_,hp60,h5⟩:=right_in hr;obtain⟨M,hM⟩:∃M,M=g.nons.toNat:=⟨_,rfl⟩;have hMn:g.nons=(M:Int):=by omega
  have hl1:=(ranks_fin (terms:=true) hr).1;have hl2:=(reach_fin hr).1;have h31:=OwnFc.pf (fz36 g hg true);have h39:=OwnFc.pf (fz97 g hg);rw[←ranks_same] at h31;rw[←reach_same] at h39;obtain⟨R1,hR1⟩:∃R1,R1=ranksL g true:=⟨_,rfl⟩;obtain⟨R2,hR2⟩:∃R2,R2=reachL g:=⟨_,rfl⟩
  have hce:checkL g=match seek (zR R1) M 0 with
   |some i=>((i:Int),8)
   |none=>match seek (zR R2) M 0 with
    |some i=>((i:Int),9)
    |none=>match seek (cycB g) M 0 with
     |some i=>((i:Int),10)
     |none=>(0,0):=by rw[checkL,hr,←hM,hR1,hR2];rfl
  rw[←hR1] at h31 hl1;rw[←hR2] at h39 hl2;clear hR1 hR2;refine W.rseq (k:=3) rfl fun K hK=>?_;simp only[go_sem];refine VCall.frz 6 h31 rfl ?_;try simp only[go_sem];refine hK _ _ _ ?_;clear hK K;refine W.seqk fun K hK=>?_;refine W.rseq (k:=1) rfl fun K hK=>?_;simp only[go_sem];refine hK _ _ _ ?_;clear hK K
  have nx1:∀(t':Fr) (h':Heap) (n':Nat),h' 0=some (.cells [eGr g])→0<n'→t' 1=.ptr 0 0 0→seek (zR R1) M 0=none→K t' h' n':=by
   intro t' h' n' e1 e2 e3 e4;refine hK _ _ _ ?_;clear hK K;rw[e4] at hce;simp only at hce;refine W.rseq (k:=3) rfl fun K hK=>?_;simp only[go_sem,e3,e1];refine VCall.frz 6 h39 rfl ?_;try simp only[go_sem,e3,e1];refine hK _ _ _ ?_;clear hK K;refine W.seqk fun K hK=>?_;refine W.rseq (k:=1) rfl fun K hK=>?_;simp only[go_sem];refine hK _ _ _ ?_;clear hK K
   have nx2:∀(t':Fr) (h':Heap) (n':Nat),h' 0=some (.cells [eGr g])→0<n'→t' 1=.ptr 0 0 0→seek (zR R2) M 0=none→K t' h' n':=by
    intro t' h' n' e1 e2 e3 e4;refine hK _ _ _ ?_;clear hK K;rw[e4] at hce;simp only at hce;refine W.seqk fun K hK=>?_;refine W.rseq (k:=1) rfl fun K hK=>?_;simp only[go_sem];refine hK _ _ _ ?_;clear hK K
    have nx3:∀(t':Fr) (h':Heap) (n':Nat),seek (cycB g) M 0=none→K t' h' n':=by
     intro t' h' n' e4;refine hK _ _ _ ?_;clear hK K;rw[e4] at hce;simp only at hce;refine W.rseq (k:=2) rfl fun K hK=>?_;simp only[go_sem];refine hK _ _ _ ?_;clear hK K;refine W.ret ?_;simp only[go_sem]
     rw[hce]
    clear hK
    refine W.block (W.while (fun m t h n=>∃i:Nat,m=M - i∧i≤M∧0<n∧seek (cycB g) (M - i) i=seek (cycB g) M 0∧h 0=some (.cells [eGr g])∧t 1=.ptr 0 0 0∧t 7=.int .i64 i) M
     ⟨0,by simp,by simp,by omega,by simp,e1,e3,rfl⟩ fun m t h n ⟨i,i1,i2,i3,i4,i5,i6,i7⟩=>?_)
    have z0:∀j,¬0=n+j:=fun j=>by omega
    refine W.seq ?_;refine W.rseq (k:=4) rfl fun K hK=>?_;simp only[go_sem,i6,i5,i7];refine hK _ _ _ ?_;clear hK K
    refine W.cond rfl (fun hc=>?_) fun hc=>?_
    ·refine W.skip ?_;simp only[go_sem];have hi:i<M:=by simp at hc;omega
     obtain⟨l,hp,hw⟩:=fz98 g hg hr i (by omega);have hw':decide ((l.length:Int)>0)=cycB g i:=by rw[←hw];exact decide_eq_decide.2 (by omega)
     rw[show M - i=(M - (i+1))+1 by omega,seek] at i4;refine W.seq (W.block ?_);refine W.rseq (k:=5) rfl fun K hK=>?_;simp only[go_sem,i6,i5,i7];refine VCall.frz 6 hp rfl ?_;simp only[go_sem];refine hK _ _ _ ?_
     first|clear hK K|clear hK|skip
     cases hcy:cycB g i
     ·rw[hcy] at i4;refine W.condF (by simp only[go_sem];rw[hw',hcy]) ?_;refine W.skip ?_;simp only[go_sem];refine W.region (k:=3) rfl ?_;simp only[go_sem,i7];refine⟨M - (i+1),by omega,i+1,rfl,by omega,by omega,i4,i5,i6, ?_⟩;rw[wrap64 (by omega) (by omega)];rfl
     ·rw[hcy] at i4;refine W.condT (by simp only[go_sem];rw[hw',hcy]) ?_;refine W.rseq (k:=3) rfl fun K hK=>?_;simp only[go_sem,i7];refine hK _ _ _ ?_;clear hK K;refine W.ret ?_;simp only[go_sem]
      rw[hce,←i4];rfl
    ·refine W.exit ?_;simp only[go_sem];have hi:i=M:=by simp at hc;omega
     rw[hi,Nat.sub_self,seek] at i4;exact nx3 _ _ _ i4.symm
   clear hK
   refine W.block (W.while (fun m t h n=>∃i:Nat,m=M - i∧i≤M∧0<n∧seek (zR R2) (M - i) i=seek (zR R2) M 0∧h 0=some (.cells [eGr g])∧(t 1=.ptr 0 0 0∧t 4=.ro (R2.map eFc))∧t 6=.int .i64 i) M
    ⟨0,by simp,by simp,by omega,by simp,e1,⟨e3,rfl⟩,rfl⟩ fun m t h n ⟨i,i1,i2,i3,i4,i5,i6,i7⟩=>?_)
   obtain⟨a1,a4⟩:=i6;refine W.seq ?_;refine W.rseq (k:=4) rfl fun K hK=>?_;simp only[go_sem,a1,i5,i7];refine hK _ _ _ ?_;clear hK K
   refine W.cond rfl (fun hc=>?_) fun hc=>?_
   ·refine W.skip ?_;simp only[go_sem];have hi:i<M:=by simp at hc;omega
    obtain⟨y,hy⟩:=fc_get (l:=R2) (n:=(i:Int)) (by omega) (by omega);rw[Int.toNat_natCast] at hy;rw[show M - i=(M - (i+1))+1 by omega,seek] at i4;refine W.seq (W.block ?_);refine W.rseq (k:=6) rfl fun K hK=>?_;simp only[go_sem,a4,i7,hy];refine hK _ _ _ ?_;clear hK K
    by_cases hz:rk R2 i=0
    ·rw[if_pos (show zR R2 i=true from decide_eq_true hz)] at i4;refine W.condT (by simp only[go_sem,hz]) ?_;refine W.rseq (k:=3) rfl fun K hK=>?_;simp only[go_sem,i7];refine hK _ _ _ ?_;clear hK K;refine W.ret ?_;simp only[go_sem]
     rw[hce,←i4]
    ·rw[if_neg (show ¬zR R2 i=true by simpa[zR] using hz)] at i4;refine W.condF (by simp only[go_sem,decide_eq_false hz]) ?_;refine W.skip ?_;simp only[go_sem];refine W.region (k:=3) rfl ?_;simp only[go_sem,i7];refine⟨M - (i+1),by omega,i+1,rfl,by omega,by omega,i4,i5,⟨a1,a4⟩, ?_⟩;rw[wrap64 (by omega) (by omega)];rfl
   ·refine W.exit ?_;simp only[go_sem];have hi:i=M:=by simp at hc;omega
    rw[hi,Nat.sub_self,seek] at i4;exact nx2 _ _ _ i5 (by omega) a1 i4.symm
  clear hK
  refine W.block (W.while (fun m t h n=>∃i:Nat,m=M - i∧i≤M∧0<n∧seek (zR R1) (M - i) i=seek (zR R1) M 0∧h 0=some (.cells [eGr g])∧(t 1=.ptr 0 0 0∧t 4=.ro (R1.map eFc))∧t 5=.int .i64 i) M
   ⟨0,by simp,by simp,by omega,by simp,by simp only[go_sem],⟨rfl,rfl⟩,rfl⟩ fun m t h n ⟨i,i1,i2,i3,i4,i5,i6,i7⟩=>?_)
  obtain⟨a1,a4⟩:=i6;refine W.seq ?_;refine W.rseq (k:=4) rfl fun K hK=>?_;simp only[go_sem,a1,i5,i7];refine hK _ _ _ ?_;clear hK K
  refine W.cond rfl (fun hc=>?_) fun hc=>?_
  ·refine W.skip ?_;simp only[go_sem];have hi:i<M:=by simp at hc;omega
   obtain⟨y,hy⟩:=fc_get (l:=R1) (n:=(i:Int)) (by omega) (by omega);rw[Int.toNat_natCast] at hy;rw[show M - i=(M - (i+1))+1 by omega,seek] at i4;refine W.seq (W.block ?_);refine W.rseq (k:=6) rfl fun K hK=>?_;simp only[go_sem,a4,i7,hy];refine hK _ _ _ ?_;clear hK K
   by_cases hz:rk R1 i=0
   ·rw[if_pos (show zR R1 i=true from decide_eq_true hz)] at i4;refine W.condT (by simp only[go_sem,hz]) ?_;refine W.rseq (k:=3) rfl fun K hK=>?_;simp only[go_sem,i7];refine hK _ _ _ ?_;clear hK K;refine W.ret ?_;simp only[go_sem]
    rw[hce,←i4]
   ·rw[if_neg (show ¬zR R1 i=true by simpa[zR] using hz)] at i4;refine W.condF (by simp only[go_sem,decide_eq_false hz]) ?_;refine W.skip ?_;simp only[go_sem];refine W.region (k:=3) rfl ?_;simp only[go_sem,i7];refine⟨M - (i+1),by omega,i+1,rfl,by omega,by omega,i4,i5,⟨a1,a4⟩, ?_⟩;rw[wrap64 (by omega) (by omega)];rfl
  ·refine W.exit ?_;simp only[go_sem];have hi:i=M:=by simp at hc;omega
   rw[hi,Nat.sub_self,seek] at i4;exact nx1 _ _ _ i5 (by omega) a1 i4.symm
 obtain⟨r,h',n',hb,rfl⟩:=fin;exact⟨_,h',n',hb,3,fun fr=>rfl⟩
end Go.Av
