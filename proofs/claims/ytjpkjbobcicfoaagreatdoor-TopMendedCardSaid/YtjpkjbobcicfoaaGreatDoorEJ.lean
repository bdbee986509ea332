/-
  Layer 18: where a word stops. Conditions: none.
-/
import Derived.Test.YtjpkjbobcicfoaaGreatDoorE9
set_option linter.unusedSimpArgs false
set_option linter.unusedVariables false
namespace Go.Av
open Go.Proofs
set_option maxRecDepth 100000
theorem nx_drop {g:Gr} {i d f:Nat} {p:Pr} {s:Sy} {l r:List Sy} (hp:g.prods[i]?=some p) (hd:p.right.drop d=s::l++r):nxL g (i,d,f)=some s:=by
 have h:(p.right.drop d)[0]?=some s:=by rw[hd];rfl
 rw[List.getElem?_drop,Nat.add_zero] at h;show(g.prods[i]?).bind (fun p=>p.right[d]?)=some s;rw[hp];exact h
theorem drop_on {p:Pr} {d:Nat} {s:Sy} {l r:List Sy} (hd:p.right.drop d=s::l++r):p.right.drop (d+1)=l++r:=by
 rw[←List.drop_drop,hd];rfl
theorem chart_over {g:Gr} {w:List Int} {sets:List (List It)} (C:ChartC g w sets) {l:List Sy} {a c:Nat} (h:Der g w l a c):∀(i d f:Nat) (p:Pr) (r:List Sy),g.prods[i]?=some p→p.right.drop d=l++r→(i,d,f)∈bg sets a→(i,d+l.length,f)∈bg sets c:=by
 induction h with
 |nil _=>intro i d f p r _ _ hm;simpa using hm
 | @term t l a c hw hl ih=>
   intro i d f p r hp hd hm;have ha:a<w.length:=(List.getElem?_eq_some_iff.1 hw).1;have h1:=((C.clo a (by omega)) _ hm).2.1 t (nx_drop hp hd) hw;have:=ih i (d+1) f p r hp (drop_on hd) h1;rw[List.length_cons,show d+(l.length+1)=d+1+l.length by omega];exact this
 | @non q l a b c hq hr hl ih1 ih2=>
   intro i d f p r hp hd hm;obtain⟨hab,hb⟩:=hr.le;obtain⟨j,hj⟩:=List.mem_iff_getElem?.1 hq;have hn:=nx_drop (f:=f) hp hd;have h1:=((C.clo a (by omega)) _ hm).1 q.left hn j q hj rfl;have h2:=ih1 j 0 a q [] hj (by simp) h1;rw[Nat.zero_add] at h2
   have h3:nxL g (j,q.right.length,a)=none:=by
    show(g.prods[j]?).bind (fun p=>p.right[q.right.length]?)=none;rw[hj];simp
   have h4:=((C.clo b (by omega)) _ h2).2.2 h3 q hj (i,d,f) hm hn;have:=ih2 i (d+1) f p r hp (drop_on hd) h4;rw[List.length_cons,show d+(l.length+1)=d+1+l.length by omega];exact this
theorem chart_waits {g:Gr} {w:List Int} {sets:List (List It)} (C:ChartC g w sets) {l:List Sy} {a c:Nat} (h:Der g w l a c):∀(i d f:Nat) (p:Pr) (r:List Sy),g.prods[i]?=some p→p.right.drop d=l++r→(i,d,f)∈bg sets a→∀k,a≤k→k<c→∃y∈bg sets k,∃t,nxL g y=some ⟨false,t⟩∧w[k]?=some t:=by
 induction h with
 |nil _=>intro i d f p r _ _ _ k h1 h2;omega
 | @term t l a c hw hl ih=>
   intro i d f p r hp hd hm k hk hc;have ha:a<w.length:=(List.getElem?_eq_some_iff.1 hw).1;have hn:=nx_drop (f:=f) hp hd;by_cases e:k=a
   ·subst e;exact⟨_,hm,t,hn,hw⟩
   ·exact ih i (d+1) f p r hp (drop_on hd) (((C.clo a (by omega)) _ hm).2.1 t hn hw) k (by omega) hc
 | @non q l a b c hq hr hl ih1 ih2=>
   intro i d f p r hp hd hm k hk hc;obtain⟨hab,hb⟩:=hr.le;obtain⟨j,hj⟩:=List.mem_iff_getElem?.1 hq;have hn:=nx_drop (f:=f) hp hd;have h1:=((C.clo a (by omega)) _ hm).1 q.left hn j q hj rfl;by_cases e:k<b
   ·exact ih1 j 0 a q [] hj (by simp) h1 k hk e
   ·have h2:=chart_over C hr j 0 a q [] hj (by simp) h1;rw[Nat.zero_add] at h2
    have h3:nxL g (j,q.right.length,a)=none:=by
     show(g.prods[j]?).bind (fun p=>p.right[q.right.length]?)=none;rw[hj];simp
    exact ih2 i (d+1) f p r hp (drop_on hd) (((C.clo b (by omega)) _ h2).2.2 h3 q hj (i,d,f) hm hn) k (by omega) hc
def NextTo (g:Gr) (x:It) (k:Nat):Prop:=(∃t:Int,nxL g x=some ⟨false,t⟩∧t=(k:Int))∨(k=16∧nxL g x=none∧x.2.2=0∧∃p,g.prods[x.1]?=some p∧p.left=g.start)
theorem der_start {g:Gr} {w:List Int} {sets:List (List It)} (C:ChartC g w sets) (h:Der g w [⟨true,g.start⟩] 0 w.length):(∀k,k<w.length→∃y∈bg sets k,∃t,nxL g y=some ⟨false,t⟩∧w[k]?=some t)∧∃y∈bg sets w.length,NextTo g y 16:=by
 generalize hs:[(⟨true,g.start⟩:Sy)]=l at h;generalize hc:w.length=c at h
 cases h with
 |nil=>cases hs
 |term hw hl=>injection hs with h1 h2;injection h1 with h1 _;cases h1
 | @non q l a b c hq hr hl=>
   injection hs with h1 h2
   injection h1 with _ h1
   subst h2;obtain⟨j,hj⟩:=List.mem_iff_getElem?.1 hq;have hb:b=c:=by cases hl with|nil _=>rfl
   rw[hb,←hc] at hr;have h0:=C.start j q hj h1.symm;refine⟨fun k hk=>chart_waits C hr j 0 0 q [] hj (by simp) h0 k (Nat.zero_le _) (by omega), ?_⟩;have h2:=chart_over C hr j 0 0 q [] hj (by simp) h0;rw[Nat.zero_add,hc] at h2;refine⟨_,h2,.inr ⟨rfl, ?_,rfl,q,hj,h1.symm⟩⟩;show(g.prods[j]?).bind (fun p=>p.right[q.right.length]?)=none;rw[hj];simp
end Go.Av
namespace Go.Av
open Go.Proofs
set_option maxRecDepth 100000
def nexM (g:Gr) (x:It):Nat:=match nxL g x with
 |some s=>if s.non then 0 else 2^s.n.toNat
 |none=>if (g.prods[x.1]?).map Pr.left=some g.start∧x.2.2=0 then 65536 else 0
def nexL (g:Gr) (l:List It):Nat:=l.foldl (fun o x=>o|||nexM g x) 0
theorem nexL_app {g:Gr} {l:List It} {x:It}:nexL g (l++[x])=nexL g l|||nexM g x:=by simp[nexL]
theorem nexM_lt {g:Gr} (hg:right g=true) (x:It):nexM g x<2^17:=by
 unfold nexM nxL;obtain⟨_,h2,_,_,h5⟩:=right_in hg
 cases hp:g.prods[x.1]? with
 |none=>
  show(if _ then _ else _)<_;split<;>decide
 |some p=>
  cases hs:p.right[x.2.1]? with
  |none=>
   simp only[Option.bind_some,hs];split<;>decide
  |some s=>
   simp only[Option.bind_some,hs];have h6:=(h5 p (List.mem_of_getElem? hp)).2.2 s (List.mem_of_getElem? hs);cases hn:s.non
   ·rw[hn] at h6;simp only[Bool.false_eq_true,if_false] at h6 ⊢;exact Nat.pow_lt_pow_right (by decide) (by omega)
   ·simp
theorem nexL_lt {g:Gr} (hg:right g=true) (l:List It):nexL g l<2^17:=by
 have h:∀(l:List It) (o:Nat),o<2^17→l.foldl (fun o x=>o|||nexM g x) o<2^17:=by
  intro l
  induction l with
  |nil=>intro o h;exact h
  |cons x l ih=>intro o h;exact ih _ (Nat.or_lt_two_pow h (nexM_lt hg x))
 exact h l 0 (by decide)
theorem nexL_bit {g:Gr} {l:List It} {k:Nat} (h:∃x∈l,(nexM g x).testBit k=true):(nexL g l).testBit k=true:=by
 have h2:∀(l:List It) (o:Nat),(o.testBit k=true∨∃x∈l,(nexM g x).testBit k=true)→(l.foldl (fun o x=>o|||nexM g x) o).testBit k=true:=by
  intro l
  induction l with
  |nil=>intro o h;rcases h with h|⟨x,hx,_⟩
        ·exact h
        ·cases hx
  |cons x l ih=>
   intro o h;refine ih _ ?_;rw[Nat.testBit_or];rcases h with h|⟨y,hy,h⟩
   ·left;simp[h]
   ·rcases List.mem_cons.1 hy with rfl|hy
    ·left;simp[h]
    ·right;exact⟨y,hy,h⟩
 exact h2 l 0 (.inr h)
set_option maxHeartbeats 8000000 in
theorem fz85 (g:Gr) (hg:SmG g) (set:List It) (hs:∀x∈set,ItOk g x) (hl:set.length<2^40):PF pg Tq 85 [.agg (eGr g),.ro (set.map eIt)] (.int .u32 (nexL g set)):=by
 refine Fi ?_;obtain⟨_,hT,_,_,h5⟩:=right_in hg.right;have hsm:∀p∈g.prods,p.right.length<2^40:=fun p hp=>by have:=(h5 p hp).2.1;omega
 refine FH.of (N:=90) (rs:=#[.tmp 4]) Tryz.func85 rfl rfl (of_decide_eq_true rfl) rfl (by decide) ?_;refine W.rseq (k:=2) rfl fun K hK=>?_;simp only[go_sem];refine hK _ _ _ ?_;clear hK K;refine W.seq ?_;refine W.rseq (k:=3) rfl fun K hK=>?_;simp only[go_sem];refine VCall.frz 6 (fz57 g hg.small) rfl ?_;try simp only[go_sem];refine hK _ _ _ ?_;clear hK K;refine W.condF (by simp only[go_sem,hg.right]) ?_;refine W.skip ?_;simp only[go_sem];refine W.rseq (k:=1) rfl fun K hK=>?_;simp only[go_sem];refine hK _ _ _ ?_;clear hK K;refine W.seqk fun K hK=>?_
 have nx:∀(t':Fr) (h':Heap) (n':Nat),t' 5=.int .u32 (nexL g set)→K t' h' n':=by
  intro t' h' n' e1;refine hK _ _ _ ?_
  first|clear hK K|clear hK|skip
  refine W.rseq (k:=2) rfl fun K hK=>?_;simp only[go_sem,e1];refine hK _ _ _ ?_;clear hK K;refine W.ret ?_;simp only[go_sem]
 clear hK;refine W.rseq (k:=3) rfl fun K hK=>?_;simp only[go_sem];refine hK _ _ _ ?_;clear hK K
 refine W.block (W.while (fun m t h n=>∃j:Nat,m=set.length - j∧j≤set.length∧0<n∧h 0=some (.cells [eGr g])∧(t 2=.ptr 0 0 0∧t 13=.ro (set.map eIt)∧t 14=.int .i64 set.length)∧t 15=.int .i64 j∧t 5=.int .u32 (nexL g (set.take j))) set.length
  ⟨0,by simp,by simp,by omega,by simp only[go_sem],⟨rfl,rfl,by simp only[go_sem,List.length_map]⟩,rfl,rfl⟩ fun m t h n ⟨j,i1,i2,i3,i4,i5,i6,i7⟩=>?_)
 obtain⟨a2,a13,a14⟩:=i5;refine W.rseq (k:=1) rfl fun K hK=>?_;simp only[go_sem,a14,i6];refine hK _ _ _ ?_;clear hK K;refine W.seq ?_
 refine W.cond rfl (fun hc=>?_) fun hc=>?_
 ·refine W.skip ?_;simp only[go_sem];have hj:j<set.length:=by simp at hc;omega
  obtain⟨x,hx⟩:=get_some hj;have hxk:(set.map eIt)[j]?=some (eIt x):=by rw[List.getElem?_map,hx];rfl
  have hxo:=hs x (List.mem_of_getElem? hx);have hxo':=hxo;obtain⟨p,hp,hd⟩:=hxo';have hpl:x.1<g.prods.length:=(List.getElem?_eq_some_iff.1 hp).1;have hpk:(g.prods.map ePr)[x.1]?=some (ePr p):=by rw[List.getElem?_map,hp];rfl
  have z0:∀j,¬0=n+j:=fun j=>by omega
  have hst:nexL g (set.take (j+1))=nexL g (set.take j)|||nexM g x:=by rw[List.take_add_one,hx];exact nexL_app
  have hb1:=nexL_lt hg.right (set.take j);have hb2:=nexM_lt hg.right x;refine W.seqk fun K hK=>?_
  have nx2:∀(t':Fr) (h':Heap) (n':Nat),0<n'→h' 0=some (.cells [eGr g])→(t' 2=.ptr 0 0 0∧t' 13=.ro (set.map eIt)∧t' 14=.int .i64 set.length)→t' 15=.int .i64 j→t' 5=.int .u32 (nexL g (set.take (j+1)))→K t' h' n':=by
   intro t' h' n' e1 e2 e3 e4 e5;refine hK _ _ _ ?_
   first|clear hK K|clear hK|skip
   refine W.region (k:=2) rfl ?_;simp only[go_sem,e4];refine⟨set.length - (j+1),by omega,j+1,rfl,by omega,by omega,e2,e3, ?_,e5⟩;rw[wrap64 (by omega) (by omega)];rfl
  clear hK;refine W.block ?_;refine W.rseq (k:=4) rfl fun K hK=>?_;simp only[go_sem,a13,i6,hxk,eIt];refine hK _ _ _ ?_;clear hK K;refine W.seq ?_;refine W.dseq (k:=29) rfl fun K hK=>?_;simp only[go_sem,a2,i4,z0,eGr,eIt,hpk,hp,List.length_map,ePr,show((x.1:Int)<0)=False from eq_false (by omega),show((x.2.1:Int)<0)=False from eq_false (by omega),show((x.1:Int)≥(g.prods.length:Int))=False from eq_false (by omega),show((x.2.1:Int)>(p.right.length:Int))=False from eq_false (by omega)];refine hK _ _ _ _ (by kernel_rfl) ?_;clear hK K;refine W.condF (by simp only[go_sem]) ?_;refine W.skip ?_;simp only[go_sem]
  have hn:=fz146 g x hxo hsm
  cases hnx:nxL g x with
  |some s=>
   rw[hnx] at hn;have hsb:=(h5 p (List.mem_of_getElem? hp)).2.2 s (by unfold nxL at hnx;rw[hp] at hnx;exact List.mem_of_getElem? hnx);cases hsn:s.non
   ·have hM:nexM g x=2^s.n.toNat:=by unfold nexM;rw[hnx];simp only[hsn,Bool.false_eq_true,if_false]
    rw[hsn] at hsb;simp only[Bool.false_eq_true,if_false] at hsb;obtain⟨ν,hν⟩:∃ν:Nat,s.n=ν:=⟨s.n.toNat,by omega⟩;have hνt:s.n.toNat=ν:=by omega
    rw[hM,hνt] at hst hb2;have hor:=or32 (show nexL g (set.take j)<2^32 by omega) (show 2^ν<2^32 by omega);refine W.rseq (k:=9) rfl fun K hK=>?_;simp only[go_sem,a2,i4,z0,eGr,eIt,eNx,eSy,Option.isSome];refine VCall.frz 6 hn rfl ?_;try simp only[go_sem,a2,i4,z0,eGr,eIt,eNx,eSy,Option.isSome];refine hK _ _ _ ?_;clear hK K;refine W.block ?_;refine W.rseq (k:=7) rfl fun K hK=>?_;simp only[go_sem,hsn,eNx,eSy,Option.isSome];refine hK _ _ _ ?_;clear hK K;refine W.condT (by simp only[go_sem]) ?_;refine W.region (k:=6) rfl ?_;simp only[go_sem,hν,shl32 (show ν<32 by omega),hor,i7]
    refine nx2 _ _ _ (by omega) ?_ ⟨a2,a13,a14⟩ i6 ?_
    ·simp only[go_sem,z0,i4]
    ·rw[hst];rfl
   ·have hM:nexM g x=0:=by unfold nexM;rw[hnx];simp only[hsn,if_true]
    rw[hM,Nat.or_zero] at hst;refine W.rseq (k:=9) rfl fun K hK=>?_;simp only[go_sem,a2,i4,z0,eGr,eIt,eNx,eSy,Option.isSome];refine VCall.frz 6 hn rfl ?_;try simp only[go_sem,a2,i4,z0,eGr,eIt,eNx,eSy,Option.isSome];refine hK _ _ _ ?_;clear hK K;refine W.block ?_;refine W.rseq (k:=7) rfl fun K hK=>?_;simp only[go_sem,hsn,eNx,eSy,Option.isSome];refine hK _ _ _ ?_;clear hK K;refine W.condF (by simp only[go_sem]) ?_;refine W.dseq (k:=20) rfl fun K hK=>?_;simp only[go_sem,Option.isSome];refine hK _ _ _ _ (by kernel_rfl) ?_;clear hK K;refine W.condF (by simp only[go_sem]) ?_;refine W.skip ?_;simp only[go_sem]
    refine nx2 _ _ _ (by omega) ?_ ⟨a2,a13,a14⟩ i6 ?_
    ·simp only[go_sem,z0,i4]
    ·rw[hst];exact i7
  |none=>
   rw[hnx] at hn;refine W.rseq (k:=9) rfl fun K hK=>?_;simp only[go_sem,a2,i4,z0,eGr,eIt,eNx,eSy,Option.isSome];refine VCall.frz 6 hn rfl ?_;try simp only[go_sem,a2,i4,z0,eGr,eIt,eNx,eSy,Option.isSome];refine hK _ _ _ ?_;clear hK K;refine W.block ?_;refine W.rseq (k:=7) rfl fun K hK=>?_;simp only[go_sem,eNx,eSy,Option.isSome];refine hK _ _ _ ?_;clear hK K;refine W.condF (by simp only[go_sem]) ?_
   by_cases hls:p.left=g.start
   ·by_cases hx0:x.2.2=0
    ·have hM:nexM g x=65536:=by unfold nexM;rw[hnx];simp only[hp,Option.map_some,hls,hx0,and_self,if_true]
     rw[hM] at hst hb2;have hor:bitsOf .or .u32 (nexL g (set.take j):Int) 65536=some ((nexL g (set.take j)|||65536:Nat):Int):=or32 (b:=65536) (show nexL g (set.take j)<2^32 by omega) (show 65536<2^32 by omega);refine W.dseq (k:=20) rfl fun K hK=>?_;simp only[go_sem,Option.isSome,a2,i4,z0,eGr,eIt,hpk,hp,List.length_map,ePr,hls,hx0,show(x.1:Int)<(g.prods.length:Int) by omega];refine hK _ _ _ _ (by kernel_rfl) ?_;clear hK K;refine W.condT (by simp only[go_sem]) ?_;refine W.region (k:=3) rfl ?_;simp only[go_sem,hor,i7]
     refine nx2 _ _ _ (by omega) ?_ ⟨a2,a13,a14⟩ i6 ?_
     ·simp only[go_sem,z0,i4]
     ·rw[hst];rfl
    ·have hM:nexM g x=0:=by unfold nexM;rw[hnx];simp only[hx0,and_false,if_false]
     rw[hM,Nat.or_zero] at hst;refine W.dseq (k:=20) rfl fun K hK=>?_;simp only[go_sem,Option.isSome,a2,i4,z0,eGr,eIt,hpk,hp,List.length_map,ePr,hls,show((x.2.2:Int)=0)=False from eq_false (by omega),show(x.1:Int)<(g.prods.length:Int) by omega];refine hK _ _ _ _ (by kernel_rfl) ?_;clear hK K;refine W.condF (by simp only[go_sem]) ?_;refine W.skip ?_;simp only[go_sem]
     refine nx2 _ _ _ (by omega) ?_ ⟨a2,a13,a14⟩ i6 ?_
     ·simp only[go_sem,z0,i4]
     ·rw[hst];exact i7
   ·have hM:nexM g x=0:=by unfold nexM;rw[hnx];simp only[hp,Option.map_some,Option.some.injEq,hls,false_and,if_false]
    rw[hM,Nat.or_zero] at hst;refine W.dseq (k:=20) rfl fun K hK=>?_;simp only[go_sem,Option.isSome,a2,i4,z0,eGr,eIt,hpk,hp,List.length_map,ePr,hls,show(x.1:Int)<(g.prods.length:Int) by omega];refine hK _ _ _ _ (by kernel_rfl) ?_;clear hK K;refine W.condF (by simp only[go_sem]) ?_;refine W.skip ?_;simp only[go_sem]
    refine nx2 _ _ _ (by omega) ?_ ⟨a2,a13,a14⟩ i6 ?_
    ·simp only[go_sem,z0,i4]
    ·rw[hst];exact i7
 ·refine W.exit ?_;simp only[go_sem];have hj:j=set.length:=by simp at hc;omega
  subst hj;rw[List.take_length] at i7;exact nx _ _ _ i7
end Go.Av
namespace Go.Av
open Go.Proofs
set_option maxRecDepth 100000
theorem fit_tok {g:Gr} {w:List Int} (h:fitG g w=true):∀t∈w,0≤t∧t<16∧t<g.terms:=by
 have hr:=fit_right h;obtain⟨_,hT,_⟩:=right_in hr;rw[fitG,Bool.and_eq_true] at h;have h2:=h.2;unfold fitsW at h2;simp only[Bool.and_eq_true] at h2;intro t ht;have h3:=h2.2;unfold belowB at h3;simp at h3;have:=h3 t ht;omega
def tokN (w:List Int) (a:Nat):Nat:=if a<w.length then (w.getD a 0).toNat else 16
theorem stop_no {g:Gr} {w:List Int} (hf:fitG g w=true) {sets:List (List It)} (C:ChartC g w sets) {a:Nat} (ha:a≤w.length) (hb:(nexL g (bg sets a)).testBit (tokN w a)=false):¬Der g w [⟨true,g.start⟩] 0 w.length:=by
 intro h;obtain⟨h1,y,hy,hn⟩:=der_start C h
 have hT:(nexL g (bg sets a)).testBit (tokN w a)=true:=by
  unfold tokN;by_cases e:a<w.length
  ·rw[if_pos e];obtain⟨y,hy,t,h2,h3⟩:=h1 a e;refine nexL_bit ⟨y,hy, ?_⟩;unfold nexM;rw[h2,List.getD_eq_getElem?_getD,h3];simp only[Bool.false_eq_true,if_false,Option.getD_some];rw[Nat.testBit_two_pow_self]
  ·rw[if_neg e];have e2:a=w.length:=by omega
   subst e2;refine nexL_bit ⟨y,hy, ?_⟩;rcases hn with ⟨t,q1,q2⟩|⟨_,q1,q2,p,q3,q4⟩
   ·unfold nexM;rw[q1,q2];simp only[Bool.false_eq_true,if_false]
    decide
   ·unfold nexM;rw[q1];simp only[q3,Option.map_some,q4,q2,and_self,if_true]
    decide
 rw[hT] at hb;cases hb
set_option maxHeartbeats 8000000 in
theorem fz31 (g:Gr) (hg:SmG g) (w:List Int) (hf:fitG g w=true):∃r,PF pg Tq 31 [.agg (eGr g),.ro (w.map eIn)] r∧(r=.tup [.int .i64 0,.int .u32 0,.bool false]∨(∃a n:Nat,r=.tup [.int .i64 a,.int .u32 n,.bool true]∧a≤w.length∧n<2^17∧¬Der g w [⟨true,g.start⟩] 0 w.length)):=by
 obtain⟨sets,hP,C⟩:=fz30 g hg w hf;have hw:=fit_len hf;have hset:∀i,∀x∈bg sets i,ItOk g x:=fun i x hx=>(C.ok i x hx).1
 have hlen:=C.len
 have fin:FH pg Tq 31 [.agg (eGr g),.ro (w.map eIn)] h0 0 fun r h n=>r=.tup [.int .i64 0,.int .u32 0,.bool false]∨(∃a n:Nat,r=.tup [.int .i64 a,.int .u32 n,.bool true]∧a≤w.length∧n<2^17∧¬Der g w [⟨true,g.start⟩] 0 w.length):=by
  refine FH.of (N:=39) (rs:=#[.tmp 4,.tmp 5,.tmp 6]) Tryz.func31 rfl rfl (of_decide_eq_true rfl) rfl (by decide) ?_;refine W.rseq (k:=4) rfl fun K hK=>?_;simp only[go_sem];refine hK _ _ _ ?_;clear hK K;refine W.seqk fun K hK=>?_
  have nx:∀(t':Fr) (h':Heap) (n':Nat),K t' h' n':=by
   intro t' h' n';refine hK _ _ _ ?_
   first|clear hK K|clear hK|skip
   refine W.rseq (k:=3) rfl fun K hK=>?_;simp only[go_sem];refine hK _ _ _ ?_;clear hK K;refine W.ret ?_;simp only[go_sem]
   exact .inl trivial
  clear hK;refine W.rseq (k:=5) rfl fun K hK=>?_;simp only[go_sem];refine VCall.frz 6 hP rfl ?_;try simp only[go_sem];refine hK _ _ _ ?_;clear hK K
  refine W.block (W.while (fun m t h n=>∃j:Nat,m=sets.length - j∧j≤sets.length∧0<n∧h 0=some (.cells [eGr g])∧(t 1=.ro (w.map eIn)∧t 2=.ptr 0 0 0∧t 13=.ro (sets.map eSe)∧t 14=.int .i64 sets.length)∧t 15=.int .i64 j) sets.length
   ⟨0,by simp,by simp,by omega,by simp only[go_sem],⟨rfl,rfl,rfl,by simp only[go_sem,List.length_map]⟩,rfl⟩ fun m t h n ⟨j,i1,i2,i3,i4,i5,i6⟩=>?_)
  obtain⟨a1,a2,a13,a14⟩:=i5;refine W.rseq (k:=1) rfl fun K hK=>?_;simp only[go_sem,a14,i6];refine hK _ _ _ ?_;clear hK K;refine W.seq ?_
  refine W.cond rfl (fun hc=>?_) fun hc=>?_
  ·refine W.skip ?_;simp only[go_sem];have hj:j<sets.length:=by simp at hc;omega
   have hxk:(sets.map eSe)[j]?=some (eSe (bg sets j)):=by rw[List.getElem?_map,bg_some hj];rfl
   have z0:∀j,¬0=n+j:=fun j=>by omega
   have hN:=fz85 g hg (bg sets j) (hset j) (by have:=C.bnd j;omega);have hNl:=nexL_lt hg.right (bg sets j);obtain⟨N,hNe⟩:∃N,N=nexL g (bg sets j):=⟨_,rfl⟩;rw[←hNe] at hN hNl;refine W.seqk fun K hK=>?_
   have nx2:∀(t':Fr) (h':Heap) (n':Nat),0<n'→h' 0=some (.cells [eGr g])→(t' 1=.ro (w.map eIn)∧t' 2=.ptr 0 0 0∧t' 13=.ro (sets.map eSe)∧t' 14=.int .i64 sets.length)→t' 15=.int .i64 j→K t' h' n':=by
    intro t' h' n' e1 e2 e3 e4;refine hK _ _ _ ?_
    first|clear hK K|clear hK|skip
    refine W.region (k:=2) rfl ?_;simp only[go_sem,e4];refine⟨sets.length - (j+1),by omega,j+1,rfl,by omega,by omega,e2,e3, ?_⟩;rw[wrap64 (by omega) (by omega)];rfl
   clear hK;refine W.block ?_;refine W.rseq (k:=5) rfl fun K hK=>?_;simp only[go_sem,a13,i6,hxk,eSe];refine hK _ _ _ ?_;clear hK K;refine W.rseq (k:=1) rfl fun K hK=>?_;simp only[go_sem];refine hK _ _ _ ?_;clear hK K;refine W.seqk fun K hK=>?_
   have nx3:∀(t':Fr) (h':Heap) (n':Nat),0<n'→h' 0=some (.cells [eGr g])→(t' 1=.ro (w.map eIn)∧t' 2=.ptr 0 0 0∧t' 13=.ro (sets.map eSe)∧t' 14=.int .i64 sets.length)→t' 15=.int .i64 j→(t' 7=.int .i64 j∧t' 8=.ro ((bg sets j).map eIt))→t' 9=.int .i64 (tokN w j)→tokN w j<32→K t' h' n':=by
    intro t' h' n' e1 e2 e3 e4 e5 e6 e7;obtain⟨b1,b2,b13,b14⟩:=e3;obtain⟨b7,b8⟩:=e5;refine hK _ _ _ ?_
    first|clear hK K|clear hK|skip
    have z0':∀j,¬0=n'+j:=fun j=>by omega
    have hs1:=shr32 (x:=N) e7;have hs2:=and32 (x:=N / 2^tokN w j) (Nat.lt_of_le_of_lt (Nat.div_le_self _ _) (by omega));refine W.rseq (k:=4) rfl fun K hK=>?_;simp only[go_sem,b2,b8,e2,z0',eGr];refine VCall.frz 6 hN rfl ?_;try simp only[go_sem,b2,b8,e2,z0',eGr];refine hK _ _ _ ?_;clear hK K
    cases hbt:N.testBit (tokN w j)
    ·have hb0:N / 2^tokN w j % 2=0:=by
      rw[Nat.testBit_eq_decide_div_mod_eq,decide_eq_false_iff_not] at hbt;omega
     refine W.rseq (k:=5) rfl fun K hK=>?_;simp only[go_sem,e6,hs1,hs2,hb0];refine hK _ _ _ ?_;clear hK K;refine W.condT (by simp only[go_sem]) ?_;refine W.rseq (k:=5) rfl fun K hK=>?_;simp only[go_sem,b7];refine hK _ _ _ ?_;clear hK K;refine W.ret ?_;simp only[go_sem]
     exact .inr ⟨j,N,rfl,by omega,hNl,stop_no (a:=j) hf C (by omega) (by rw[←hNe];exact hbt)⟩
    ·have hb0:N / 2^tokN w j % 2=1:=by
      rw[Nat.testBit_eq_decide_div_mod_eq,decide_eq_true_iff] at hbt;exact hbt
     refine W.rseq (k:=5) rfl fun K hK=>?_;simp only[go_sem,e6,hs1,hs2,hb0];refine hK _ _ _ ?_;clear hK K;refine W.condF (by simp only[go_sem]) ?_;refine W.skip ?_;simp only[go_sem]
     refine nx2 _ _ _ (by omega) ?_ ⟨b1,b2,b13,b14⟩ e4;simp only[go_sem,z0',e2]
   clear hK;by_cases hjw:j<w.length
   ·obtain⟨t1,ht1⟩:=get_some hjw;obtain⟨q1,q2,q3⟩:=fit_tok hf t1 (List.mem_of_getElem? ht1);have hte:tokN w j=t1.toNat:=by unfold tokN;rw[if_pos hjw,List.getD_eq_getElem?_getD,ht1];rfl
    have htk:(w.map eIn)[j]?=some (eIn t1):=by rw[List.getElem?_map,ht1];rfl
    refine W.rseq (k:=4) rfl fun K hK=>?_;simp only[go_sem,a1,List.length_map,show(j:Int)<(w.length:Int) by omega];refine hK _ _ _ ?_;clear hK K;refine W.condT (by simp only[go_sem]) ?_;refine W.region (k:=5) rfl ?_;simp only[go_sem,a1,htk,eIn,List.length_map,ht1]
    refine nx3 _ _ _ (by omega) i4 ⟨a1,a2,a13,a14⟩ i6 ⟨rfl,rfl⟩ ?_ (by omega);rw[hte,Int.toNat_of_nonneg q1];rfl
   ·have hte:tokN w j=16:=by unfold tokN;rw[if_neg hjw]
    refine W.rseq (k:=4) rfl fun K hK=>?_;simp only[go_sem,a1,List.length_map,show((j:Int)<(w.length:Int))=False from eq_false (by omega)];refine hK _ _ _ ?_;clear hK K;refine W.condF (by simp only[go_sem]) ?_;refine W.skip ?_;simp only[go_sem]
    refine nx3 _ _ _ (by omega) i4 ⟨a1,a2,a13,a14⟩ i6 ⟨rfl,rfl⟩ ?_ (by omega);rw[hte];rfl
  ·refine W.exit ?_;simp only[go_sem];exact nx _ _ _
 obtain⟨r,h',n',hb,hr⟩:=fin;refine⟨r,⟨r,h',n',hb,8,fun fr=>?_⟩,hr⟩;rcases hr with rfl|⟨a,n,rfl,_⟩<;>simp[rf,rfs]
end Go.Av
