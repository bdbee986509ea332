/-
  Word: what becomes of a word. Conditions: none.
-/
import Derived.Test.YtjpkjbobcicfoaaGreatDoorE3
import Derived.Test.YtjpkjbobcicfoaaGreatDoorX4
set_option linter.unusedSimpArgs false
set_option linter.unusedVariables false
namespace Go.Av
open Go.Proofs
set_option maxRecDepth 100000
structure Ed where
 pos:Int
 drop:Bool
 tok:Int
def eEd (x:Ed):List AV:=[.int .i64 x.pos,.bool x.drop,.int .i64 x.tok]
attribute [go_sem] eEd
def fineB (x:Ed) (pos:Int) (dropped:Bool) (size:Int):Bool:=
 if x.pos<0∨x.pos>size∨x.pos<pos∨(dropped=true∧x.pos=pos) then false
 else if x.drop then decide (x.pos<size) && decide (x.tok=0) else decide (0≤x.tok) && decide (x.tok<16)
set_option maxHeartbeats 4000000 in
theorem fz104 (x:Ed) (pos:Int) (dropped:Bool) (size:Int):PF pg Tq 104 [.agg (eEd x),.int .i64 pos,.bool dropped,.int .i64 size] (.bool (fineB x pos dropped size)):=by
 refine Fb ?_;refine FH.of (N:=48) (rs:=#[.tmp 8]) Tryz.func104 rfl rfl (of_decide_eq_true rfl) rfl (by decide) ?_;refine W.rseq (k:=2) rfl fun K hK=>?_;simp only[go_sem];refine hK _ _ _ ?_;clear hK K;refine W.seqk fun K hK=>?_
 have nx8:∀(t':Fr),t' 4=.ptr 0 0 0→¬(x.pos<0∨x.pos>size∨x.pos<pos∨(dropped=true∧x.pos=pos))→x.drop=false→∀(h':Heap) (n':Nat),h' 0=some (.cells [eEd x])→0<n'→K t' h' n':=by
  intro t' e1 e2 e3 h' n' e4 e5;refine hK _ _ _ ?_
  first|clear hK K|clear hK|skip
  have z0:∀j,¬0=n'+j:=fun j=>by omega
  have hv:fineB x pos dropped size=(decide (0≤x.tok) && decide (x.tok<16)):=by unfold fineB;rw[if_neg e2,e3];rfl
  cases hc:decide (0≤x.tok)
  all_goals
   refine W.rseq (k:=9) rfl fun K hK=>?_;simp only[go_sem,e1,e4,z0,hc];refine hK _ _ _ ?_;clear hK K;refine W.ret ?_;simp only[go_sem]
   rw[hv,hc];rfl
 clear hK;refine W.block ?_;refine W.seqk fun K hK=>?_
 have nx:∀(t':Fr) (n':Nat) (b:Bool),0<n'→t' 4=.ptr 0 0 0→t' 9=.bool b→(b=true↔(x.pos<0∨x.pos>size∨x.pos<pos∨(dropped=true∧x.pos=pos)))→t' 3=.int .i64 size→K t' (upd h0 0 (some (.cells [eEd x]))) n':=by
  intro t' n' b e0 e1 e2 e3 e4;refine hK _ _ _ ?_;clear hK;have z0:∀j,¬0=n'+j:=fun j=>by omega
  cases b
  ·have hb:¬(x.pos<0∨x.pos>size∨x.pos<pos∨(dropped=true∧x.pos=pos)):=fun q=>by have:=e3.2 q;cases this
   refine W.condF (by simp only[go_sem,e2]) ?_;cases hd:x.drop
   ·refine W.rseq (k:=3) rfl fun K hK=>?_;simp only[go_sem,e1,hd,z0];refine hK _ _ _ ?_;clear hK K;refine W.condF (by simp only[go_sem]) ?_;refine W.skip ?_;simp only[go_sem]
    have hx:upd h0 0 (some (.cells [[.int .i64 x.pos,.bool false,.int .i64 x.tok]])) 0=some (.cells [eEd x]):=by simp only[go_sem,hd]
    refine nx8 _ ?_ hb hd _ _ hx ?_
    ·exact e1
    ·omega
   ·have hv:fineB x pos dropped size=(decide (x.pos<size) && decide (x.tok=0)):=by unfold fineB;rw[if_neg hb,hd];rfl
    refine W.rseq (k:=3) rfl fun K hK=>?_;simp only[go_sem,e1,hd,z0];refine hK _ _ _ ?_;clear hK K;refine W.condT (by simp only[go_sem]) ?_
    cases hc:decide (x.pos<size)
    all_goals
     refine W.rseq (k:=10) rfl fun K hK=>?_;simp only[go_sem,e1,z0,hc,e4];refine hK _ _ _ ?_;clear hK K;refine W.ret ?_;simp only[go_sem]
     rw[hv,hc];rfl
  ·have hb:=e3.1 rfl;have hv:fineB x pos dropped size=false:=by unfold fineB;rw[if_pos hb]
   refine W.condT (by simp only[go_sem,e2]) ?_;refine W.rseq (k:=1) rfl fun K hK=>?_;simp only[go_sem];refine hK _ _ _ ?_;clear hK K;refine W.ret ?_;simp only[go_sem]
   rw[hv]
 clear hK nx8;refine W.rseq (k:=4) rfl fun K hK=>?_;simp only[go_sem];refine hK _ _ _ ?_;clear hK K
 refine W.cond rfl (fun hc=>?_) fun hc=>?_
 ·refine W.skip ?_;simp only[go_sem];exact nx _ _ (decide (x.pos<0)) (by omega) rfl rfl ⟨fun q=> .inl (by simpa using q),fun _=>hc⟩ rfl
 ·refine W.rseq (k:=5) rfl fun K hK=>?_;simp only[go_sem];refine hK _ _ _ ?_;clear hK K
  refine W.cond rfl (fun hc2=>?_) fun hc2=>?_
  ·refine W.skip ?_;simp only[go_sem];exact nx _ _ (decide (size<x.pos)) (by omega) rfl rfl ⟨fun q=> .inr (.inl (by simpa using q)),fun _=>hc2⟩ rfl
  ·refine W.rseq (k:=5) rfl fun K hK=>?_;simp only[go_sem];refine hK _ _ _ ?_;clear hK K
   refine W.cond rfl (fun hc3=>?_) fun hc3=>?_
   ·refine W.skip ?_;simp only[go_sem];exact nx _ _ (decide (x.pos<pos)) (by omega) rfl rfl ⟨fun q=> .inr (.inr (.inl (by simpa using q))),fun _=>hc3⟩ rfl
   ·have k1:¬x.pos<0:=by simpa using hc
    have k2:¬x.pos>size:=by simpa using hc2
    have k3:¬x.pos<pos:=by simpa using hc3
    cases dropped
    ·refine W.region (k:=8) rfl ?_;simp only[go_sem];exact nx _ _ false (by omega) rfl rfl ⟨fun q=>(by cases q),fun q=>(by rcases q with q|q|q|⟨q,_⟩<;>first|exact absurd q k1|exact absurd q k2|exact absurd q k3|cases q)⟩ rfl
    ·refine W.region (k:=8) rfl ?_;simp only[go_sem];exact nx _ _ (decide (x.pos=pos)) (by omega) rfl rfl ⟨fun q=> .inr (.inr (.inr ⟨rfl,by simpa using q⟩)),fun q=>(by rcases q with q|q|q|⟨_,q⟩<;>first|exact absurd q k1|exact absurd q k2|exact absurd q k3|exact decide_eq_true q)⟩ rfl
def mayF:List Ed→Int→Bool→Int→Bool
 |[],_,_,_=>true
 |x::l,pos,dropped,size=>fineB x pos dropped size && mayF l x.pos x.drop size
set_option maxHeartbeats 4000000 in
theorem fz43 (l:List Ed) (size:Int) (hl:l.length<2^40):PF pg Tq 43 [.ro (l.map eEd),.int .i64 size] (.bool (mayF l 0 false size)):=by
 refine Fb ?_;refine FH.of (N:=26) (rs:=#[.tmp 4]) Tryz.func43 rfl rfl (of_decide_eq_true rfl) rfl (by decide) ?_;refine W.rseq (k:=1) rfl fun K hK=>?_;simp only[go_sem];refine hK _ _ _ ?_;clear hK K;refine W.rseq (k:=2) rfl fun K hK=>?_;simp only[go_sem];refine hK _ _ _ ?_;clear hK K;refine W.seqk fun K hK=>?_
 have nx:∀(t':Fr) (h':Heap) (n':Nat),mayF l 0 false size=true→K t' h' n':=by
  intro t' h' n' e;refine hK _ _ _ ?_
  first|clear hK K|clear hK|skip
  refine W.rseq (k:=1) rfl fun K hK=>?_;simp only[go_sem];refine hK _ _ _ ?_;clear hK K;refine W.ret ?_;simp only[go_sem]
  rw[e]
 clear hK;refine W.rseq (k:=3) rfl fun K hK=>?_;simp only[go_sem,List.length_map];refine hK _ _ _ ?_;clear hK K
 refine W.block (W.while (fun mm t2 h2 n2=>∃(j:Nat) (pos:Int) (d:Bool),mm=l.length - j∧j≤l.length∧mayF l 0 false size=mayF (l.drop j) pos d size∧(t2 1=.int .i64 size∧t2 9=.ro (l.map eEd)∧t2 10=.int .i64 l.length)∧t2 11=.int .i64 j∧t2 5=.int .i64 pos∧t2 6=.bool d) l.length
  ⟨0,0,false,by simp,by simp,rfl,⟨rfl,rfl,rfl⟩,rfl,rfl,rfl⟩ fun mm t2 h2 n2 ⟨j,pos,d,i1,i2,i3,⟨a1,a9,a10⟩,i5,i6,i7⟩=>?_)
 refine W.rseq (k:=1) rfl fun K hK=>?_;simp only[go_sem,a10,i5];refine hK _ _ _ ?_;clear hK K;refine W.seq ?_
 refine W.cond rfl (fun hc=>?_) fun hc=>?_
 ·refine W.skip ?_;simp only[go_sem];have hj:j<l.length:=by simp at hc;omega
  obtain⟨x,hx⟩:=get_some hj;have hxk:(l.map eEd)[j]?=some (eEd x):=by rw[List.getElem?_map,hx];rfl
  have hdr:l.drop j=x::l.drop (j+1):=by
   rw[List.drop_eq_getElem_cons hj]
   congr 1
   have:=List.getElem?_eq_getElem hj;rw[this] at hx;injection hx
  refine W.seq ?_;refine W.block ?_;refine W.rseq (k:=4) rfl fun K hK=>?_;simp only[go_sem,a9,i5,hxk];refine hK _ _ _ ?_;clear hK K;refine W.seq ?_
  cases hf:fineB x pos d size
  ·refine W.rseq (k:=6) rfl fun K hK=>?_;simp only[go_sem,a1,i6,i7,hf];refine VCall.frz 6 (fz104 x pos d size) rfl ?_;try simp only[go_sem,a1,i6,i7,hf];refine hK _ _ _ ?_;clear hK K;refine W.condT (by simp only[go_sem,hf]) ?_;refine W.rseq (k:=1) rfl fun K hK=>?_;simp only[go_sem];refine hK _ _ _ ?_;clear hK K;refine W.ret ?_;simp only[go_sem]
   rw[i3,hdr,mayF,hf];rfl
  ·refine W.rseq (k:=6) rfl fun K hK=>?_;simp only[go_sem,a1,i6,i7,hf];refine VCall.frz 6 (fz104 x pos d size) rfl ?_;try simp only[go_sem,a1,i6,i7,hf];refine hK _ _ _ ?_;clear hK K;refine W.condF (by simp only[go_sem,hf]) ?_;refine W.skip ?_;simp only[go_sem];refine W.draw (k:=6) rfl ?_;simp only[go_sem];refine⟨by kernel_rfl, ?_⟩;refine W.region (k:=2) rfl ?_;simp only[go_sem,i5]
   refine⟨l.length - (j+1),by omega,j+1,x.pos,x.drop,rfl,by omega, ?_,⟨a1,a9,a10⟩, ?_,rfl,rfl⟩
   ·rw[i3,hdr,mayF,hf];rfl
   ·rw[wrap64 (by omega) (by omega)];rfl
 ·refine W.exit ?_;simp only[go_sem];have hj:j=l.length:=by simp at hc;omega
  refine nx _ _ _ ?_;rw[i3,hj,List.drop_length];rfl
end Go.Av
namespace Go.Av
open Go.Proofs
set_option maxRecDepth 100000
set_option maxHeartbeats 4000000 in
theorem fz44 (t:Int) (bm bo lo:Nat) (h:Heap) (n:Nat) (lm:bm<lo) (lb:bo<lo) (ln:lo≤n) (hne:bm≠bo) (out:List Int) (ov:AV) (em:h bm=some (.cells [[.int .i64 out.length]])) (eo:h bo=some (.cells [[ov]])) (ho:SlL eIn 1 h lo n ov out) (hl:out.length<24):
  FH pg Tq 44 [.int .i64 t,.ptr bm 0 0,.ptr bo 0 0] h n fun r h' n'=>r=.tup []∧n≤n'∧h' bm=some (.cells [[.int .i64 (out++[t]).length]])∧(∃b',h' bo=some (.cells [[.sl b' 0 (out++[t]).length 1]])∧n≤b'∧b'<n'∧h' b'=some (.cells ((out++[t]).map eIn)))∧∀y,y<n→y≠bm→y≠bo→(∀b o l s,ov=.sl b o l s→y≠b)→h' y=h y:=by
 have zm:∀j,¬bm=n+j:=fun j=>by omega
 have zo:∀j,¬bo=n+j:=fun j=>by omega
 have hlen:(out++[t]).length=out.length+1:=by simp
 refine FH.of (N:=12) (rs:=#[]) Tryz.func44 rfl rfl (of_decide_eq_true rfl) rfl (by decide) ?_;refine W.rseq (k:=3) rfl fun K hK=>?_;simp only[go_sem,em,zm];refine hK _ _ _ ?_;clear hK K;refine W.rseq (k:=2) rfl fun K hK=>?_;simp only[go_sem,wrap64 (show -9223372036854775808≤(out.length:Int)+1 by omega) (show(out.length:Int)+1<9223372036854775808 by omega)];refine hK _ _ _ ?_;clear hK K;refine W.condT (by simp only[go_sem,decide_eq_true (show(out.length:Int)+1≤24 by omega)]) ?_;refine W.region (k:=5) rfl ?_
 rcases id ho with ⟨w0,rfl⟩|⟨b,rfl,w1,w2,w3⟩
 ·simp only[go_sem,eo,zo,zm,show ¬bo=bm by omega];refine⟨by omega, ?_,⟨n+8,by rw[hlen,w0];rfl,by omega,by omega, ?_⟩,fun y hy h1 h2 _=>?_⟩
  ·simp only[hne,if_false,hlen];rfl
  ·rw[w0];simp only[go_sem,show ¬n+8=bo by omega];rfl
  ·simp only[go_sem,h1,h2,show ∀j,¬y=n+j from fun j=>by omega]
 ·have zb:∀j,¬b=n+j:=fun j=>by omega
  simp only[go_sem,eo,zo,zm,zb,w3,show ¬bo=bm by omega,show ¬b=bm by omega,show ¬bo=b by omega,List.length_map,and_false,if_false,Nat.lt_irrefl,show(out.length+1)*8≤140737488355328 by omega];refine⟨by omega, ?_,⟨n+8,by rw[hlen],by omega,by omega, ?_⟩,fun y hy h1 h2 h3=>?_⟩
  ·simp only[hne,if_false,show ¬bm=b by omega,hlen];rfl
  ·rw[List.map_append];simp only[go_sem,show ¬n+8=bo by omega];rfl
  ·simp only[go_sem,h1,h2,h3 b 0 out.length 1 rfl,show ∀j,¬y=n+j from fun j=>by omega]
def applF (w:List Int):List Ed→Nat→List Int
 |[],i=>w.drop i
 |x::l,i=>(w.drop i).take (x.pos.toNat - i)++(if x.drop then applF w l (x.pos.toNat+1) else x.tok::applF w l x.pos.toNat)
theorem drop_one {w:List Int} {i:Nat} {t:Int} (h:w[i]?=some t):w.drop i=t::w.drop (i+1):=by
 have hi:=(List.getElem?_eq_some_iff.1 h).1;rw[List.drop_eq_getElem_cons hi]
 congr 1
 have:=List.getElem?_eq_getElem hi;rw[this] at h;injection h
def PutS (bx:Nat) (h:Heap) (n:Nat) (out:List Int):Prop:=14≤n∧h 13=some (.cells [[.int .i64 out.length]])∧∃ov,h 12=some (.cells [[ov]])∧SlL eIn 1 h 14 n ov out∧∀b o l s,ov=.sl b o l s→b≠bx
theorem PutS.next {bx bx':Nat} {h h':Heap} {n n':Nat} {out:List Int} (p:PutS bx h n out) (hb:bx'=bx∨n≤bx') (hn:n≤n') (hh:∀y,y<n→h' y=h y):PutS bx' h' n' out:=by
 obtain⟨p1,p2,ov,p3,p4,p5⟩:=p;refine⟨by omega,(hh _ (by omega)).trans p2,ov,(hh _ (by omega)).trans p3,p4.next rfl (fun x hx hx'=>hh x hx') hn (Nat.le_refl _),fun b o l s e=>?_⟩;rcases hb with rfl|hb
 ·exact p5 b o l s e
 ·rcases p4 with ⟨_,rfl⟩|⟨b2,rfl,_,q,_⟩
  ·cases e
  ·injection e with e;omega
theorem PutS.zero {bx:Nat} {h:Heap} {n:Nat} {out:List Int} (p:PutS bx h n out):PutS 0 h n out:=by
 obtain⟨p1,p2,ov,p3,p4,p5⟩:=p;refine⟨p1,p2,ov,p3,p4,fun b o l s e=>?_⟩;rcases p4 with ⟨_,rfl⟩|⟨b2,rfl,q,_⟩
 ·cases e
 ·injection e with e;omega
theorem put_call {bx:Nat} {h:Heap} {n:Nat} {out:List Int} (p:PutS bx h n out) (hbx:bx≠12∧bx≠13) (hbn:bx<n) (hl:out.length<24) (t:Int):FH pg Tq 44 [.int .i64 t,.ptr 13 0 0,.ptr 12 0 0] h n fun r h' n'=>r=.tup []∧n≤n'∧PutS bx h' n' (out++[t])∧h' bx=h bx:=by
 obtain⟨p1,p2,ov,p3,p4,p5⟩:=p;obtain⟨r,h',n',hb,e1,e2,e3,⟨b',e4,e5,e6,e7⟩,e8⟩:=fz44 t 13 12 14 h n (by omega) (by omega) p1 (by omega) out ov p2 p3 p4 hl;exact⟨r,h',n',hb,e1,e2,⟨by omega,e3,_,e4,.inr ⟨b',rfl,by omega,e6,e7⟩,fun b o l s e=>by injection e with e;omega⟩,e8 bx hbn hbx.2 hbx.1 fun b o l s e q=>p5 b o l s e q.symm⟩
theorem fine_in {x:Ed} {pos:Int} {d:Bool} {size:Int} (h:fineB x pos d size=true):0≤x.pos∧x.pos≤size∧pos≤x.pos∧(d=true→x.pos≠pos)∧(x.drop=true→x.pos<size)∧(x.drop=false→0≤x.tok∧x.tok<16):=by
 unfold fineB at h;split at h
 ·cases h
 ·rename_i hn
  refine⟨by omega,by omega,by omega,fun hd q=>hn (.inr (.inr (.inr ⟨hd,q⟩))),fun hd=>?_,fun hd=>?_⟩
  ·rw[hd] at h;simp at h;exact h.1
  ·rw[hd] at h;simpa using h
set_option maxHeartbeats 16000000 in
theorem fz16 (w:List Int) (l:List Ed) (hw:rightW w=true) (hl:l.length<2^40) (hm:mayF l 0 false w.length=true) (hA:(applF w l 0).length≤24):PF pg Tq 16 [.ro (w.map eIn),.ro (l.map eEd)] (.tup [.ro ((applF w l 0).map eIn),.int .i64 0]):=by
 have hw24:w.length≤24:=by
  unfold rightW at hw;rw[Bool.and_eq_true] at hw;have:=of_decide_eq_true hw.1;omega
 have fin:FH pg Tq 16 [.ro (w.map eIn),.ro (l.map eEd)] h0 0 fun r h n=>∃ov,r=.tup [ov,.int .i64 0]∧∀fr,rf fr 6 h ov=some (.ro ((applF w l 0).map eIn)):=by
  refine FH.of (N:=65) (rs:=#[.tmp 4,.tmp 5]) Tryz.func16 rfl rfl (of_decide_eq_true rfl) rfl (by decide) ?_;refine W.rseq (k:=2) rfl fun K hK=>?_;simp only[go_sem];refine hK _ _ _ ?_;clear hK K;refine W.seqk fun K hK=>?_
  have nx:∀(t':Fr),t' 0=.ro (w.map eIn)→t' 1=.ro (l.map eEd)→K t' h0 12:=by
   intro t' s0 s1;refine hK _ _ _ ?_;clear hK;refine W.rseq (k:=1) rfl fun K hK=>?_;simp only[go_sem];refine hK _ _ _ ?_;clear hK K;refine W.rseq (k:=2) rfl fun K hK=>?_;simp only[go_sem];refine hK _ _ _ ?_;clear hK K;refine W.rseq (k:=2) rfl fun K hK=>?_;simp only[go_sem];refine hK _ _ _ ?_;clear hK K;refine W.rseq (k:=1) rfl fun K hK=>?_;simp only[go_sem];refine hK _ _ _ ?_;clear hK K;refine W.seqk fun K hK=>?_
   have nxA:∀(t2:Fr) (h2:Heap) (n2 i:Nat) (out:List Int),PutS 0 h2 n2 out→14<n2→i≤w.length→out++w.drop i=applF w l 0→(t2 0=.ro (w.map eIn)∧t2 6=.ptr 12 0 0∧t2 7=.ptr 13 0 0∧t2 8=.fn 44 [.ptr 13 0 0,.ptr 12 0 0])→t2 9=.int .i64 i→K t2 h2 n2:=by
    intro t2 h2 n2 i out p1 p1' p2 p3 ⟨b0,b6,b7,b8⟩ b9;refine hK _ _ _ ?_;clear hK;refine W.seqk fun K hK=>?_
    have nxB:∀(t3:Fr) (h3:Heap) (n3:Nat),PutS 0 h3 n3 (applF w l 0)→(t3 6=.ptr 12 0 0∧t3 7=.ptr 13 0 0)→K t3 h3 n3:=by
     intro t3 h3 n3 ⟨q1,q2,ov,q3,q4,_⟩ ⟨c6,c7⟩;refine hK _ _ _ ?_;clear hK;have z12:∀j,¬12=n3+j:=fun j=>by omega
     have z13:∀j,¬13=n3+j:=fun j=>by omega
     refine W.seq ?_;refine W.rseq (k:=2) rfl fun K hK=>?_;simp only[go_sem,c7,q2,z13,show((24:Int)<((applF w l 0).length:Int))=False from eq_false (by omega)];refine hK _ _ _ ?_;clear hK K;refine W.condF (by simp only[go_sem]) ?_;refine W.skip ?_;simp only[go_sem];refine W.rseq (k:=3) rfl fun K hK=>?_;simp only[go_sem,c6,q3,z12];refine hK _ _ _ ?_;clear hK K;refine W.ret ?_;simp only[go_sem]
     exact⟨ov,rfl,fun fr=>q4.frz (d:=4) fun x _=>by simp[rfs,rf,eIn]⟩
    clear hK
    refine W.block (W.while (fun mm t3 h3 n3=>∃(i:Nat) (out:List Int),mm=w.length - i∧i≤w.length∧PutS 0 h3 n3 out∧14<n3∧out++w.drop i=applF w l 0∧(t3 0=.ro (w.map eIn)∧t3 6=.ptr 12 0 0∧t3 7=.ptr 13 0 0∧t3 8=.fn 44 [.ptr 13 0 0,.ptr 12 0 0])∧t3 9=.int .i64 i) (w.length - i)
     ⟨i,out,rfl,p2,p1,p1',p3,⟨b0,b6,b7,b8⟩,b9⟩ fun mm t3 h3 n3 ⟨i,out,i1,i2,i3,i3',i4,⟨b0,b6,b7,b8⟩,b9⟩=>?_)
    refine W.seq ?_;refine W.rseq (k:=4) rfl fun K hK=>?_;simp only[go_sem,b0,b9,List.length_map];refine hK _ _ _ ?_;clear hK K
    refine W.cond rfl (fun hc=>?_) fun hc=>?_
    ·refine W.skip ?_;simp only[go_sem];have hi:i<w.length:=by simp at hc;omega
     obtain⟨x,hx⟩:=get_some hi;have hxk:(w.map eIn)[i]?=some (eIn x):=by rw[List.getElem?_map,hx];rfl
     have hd:=drop_one hx
     have hol:out.length<24:=by
      have:=congrArg List.length i4;rw[hd,List.length_append,List.length_cons] at this;omega
     refine W.seq ?_;refine W.block ?_;refine W.region (k:=6) rfl ?_;simp only[go_sem,b0,b8,b9,hxk,eIn];refine VCall.heap (put_call (i3.next (.inl rfl) (by omega) (fun _ _=>rfl)) (by omega) (by omega) hol x) fun r h4 n4 ⟨r1,r2,r3,_⟩=>?_
     simp only[go_sem];refine W.region (k:=3) rfl ?_;simp only[go_sem,b9];refine⟨w.length - (i+1),by omega,i+1,out++[x],rfl,by omega,r3.next (.inl rfl) (by omega) (fun _ _=>rfl),by omega,by rw[←i4,hd];simp,⟨b0,b6,b7,b8⟩, ?_⟩;rw[wrap64 (by omega) (by omega)];rfl
    ·refine W.exit ?_;simp only[go_sem];have hi:i=w.length:=by simp at hc;omega
     rw[hi,List.drop_length,List.append_nil] at i4;rw[i4] at i3;exact nxB _ _ _ (i3.next (.inl rfl) (by omega) (fun _ _=>rfl)) ⟨b6,b7⟩
   clear hK;have hst:PutS 0 (upd (upd (upd h0 12 (some (.cells [[.nils]]))) 13 (some (.cells [[.int .i64 0]]))) 13 (some (.cells [[.int .i64 0]]))) 15 []:=⟨by omega,by simp only[go_sem],.nils,by simp only[go_sem],.inl ⟨rfl,rfl⟩,fun b o l s e=>by cases e⟩;refine W.rseq (k:=3) rfl fun K hK=>?_;simp only[go_sem,s1,List.length_map];refine hK _ _ _ ?_;clear hK K
   refine W.block (W.while (fun mm t2 h2 n2=>∃(j i:Nat) (out:List Int) (pos:Int) (d:Bool),mm=l.length - j∧j≤l.length∧14<n2∧PutS 0 h2 n2 out∧out++applF w (l.drop j) i=applF w l 0∧mayF (l.drop j) pos d w.length=true∧((i:Int)=pos+if d then 1 else 0)∧i≤w.length∧(t2 0=.ro (w.map eIn)∧t2 6=.ptr 12 0 0∧t2 7=.ptr 13 0 0∧t2 8=.fn 44 [.ptr 13 0 0,.ptr 12 0 0]∧t2 23=.ro (l.map eEd)∧t2 24=.int .i64 l.length)∧t2 9=.int .i64 i∧t2 25=.int .i64 j) l.length
    ⟨0,0,[],0,false,by simp,by simp,by omega,hst.next (.inl rfl) (by omega) (fun _ _=>rfl),rfl,hm,rfl,by omega,⟨s0,rfl,rfl,rfl,rfl,rfl⟩,rfl,rfl⟩ fun mm t2 h2 n2 ⟨j,i,out,pos,d,i1,i2,i3,i4,i5,i6,i7,i8,⟨b0,b6,b7,b8,b23,b24⟩,b9,b25⟩=>?_)
   refine W.rseq (k:=1) rfl fun K hK=>?_;simp only[go_sem,b24,b25];refine hK _ _ _ ?_;clear hK K;refine W.seq ?_
   refine W.cond rfl (fun hc=>?_) fun hc=>?_
   ·refine W.skip ?_;simp only[go_sem];have hj:j<l.length:=by simp at hc;omega
    obtain⟨x,hx⟩:=get_some hj;have hxk:(l.map eEd)[j]?=some (eEd x):=by rw[List.getElem?_map,hx];rfl
    have hdr:l.drop j=x::l.drop (j+1):=by
     rw[List.drop_eq_getElem_cons hj]
     congr 1
     have:=List.getElem?_eq_getElem hj;rw[this] at hx;injection hx
    rw[hdr,mayF,Bool.and_eq_true] at i6;obtain⟨i6,i6'⟩:=i6;obtain⟨f1,f2,f3,f4,f5,f6⟩:=fine_in i6;rw[hdr,applF] at i5;obtain⟨P,hP⟩:∃P:Nat,x.pos=P:=⟨x.pos.toNat,by omega⟩;have hPt:x.pos.toNat=P:=by omega
    rw[hPt] at i5
    have hiP:i≤P:=by
     cases d
     ·simp at i7;omega
     ·have:=f4 rfl;simp at i7;omega
    refine W.seqk fun K hK=>?_
    have nx2:∀(t3:Fr) (h3:Heap) (n3 i':Nat) (out':List Int),n2≤n3→PutS 0 h3 n3 out'→out'++applF w (l.drop (j+1)) i'=applF w l 0→((i':Int)=x.pos+if x.drop then 1 else 0)→i'≤w.length→(t3 0=.ro (w.map eIn)∧t3 6=.ptr 12 0 0∧t3 7=.ptr 13 0 0∧t3 8=.fn 44 [.ptr 13 0 0,.ptr 12 0 0]∧t3 23=.ro (l.map eEd)∧t3 24=.int .i64 l.length)→t3 9=.int .i64 i'→t3 25=.int .i64 j→K t3 h3 n3:=by
     intro t3 h3 n3 i' out' e0 e1 e2 e3 e4 e5 e6 e7;refine hK _ _ _ ?_;clear hK;refine W.region (k:=2) rfl ?_;simp only[go_sem,e7];refine⟨l.length - (j+1),by omega,j+1,i',out',x.pos,x.drop,rfl,by omega,by omega,e1.next (.inl rfl) (by omega) (fun _ _=>rfl),e2,i6',e3,e4,e5,e6, ?_⟩;rw[wrap64 (by omega) (by omega)];rfl
    clear hK;refine W.block ?_;refine W.rseq (k:=4) rfl fun K hK=>?_;simp only[go_sem,b23,b25,hxk,eEd];refine hK _ _ _ ?_;clear hK K
    obtain⟨R,hR⟩:∃R,R=if x.drop then applF w (l.drop (j+1)) (P+1) else x.tok::applF w (l.drop (j+1)) P:=⟨_,rfl⟩
    rw[←hR] at i5;refine W.seqk fun K hK=>?_
    have nx4:∀(t4:Fr) (h4:Heap) (n4:Nat) (out':List Int),n2+5≤n4→PutS (n2+3) h4 n4 out'→out'++R=applF w l 0→h4 (n2+3)=some (.cells [eEd x])→(t4 0=.ro (w.map eIn)∧t4 6=.ptr 12 0 0∧t4 7=.ptr 13 0 0∧t4 8=.fn 44 [.ptr 13 0 0,.ptr 12 0 0]∧t4 23=.ro (l.map eEd)∧t4 24=.int .i64 l.length)→t4 9=.int .i64 P→t4 25=.int .i64 j→t4 11=.ptr (n2+3) 0 0→K t4 h4 n4:=by
     intro t4 h4 n4 out' q1 q2 q3 q4 ⟨c0,c6,c7,c8,c23,c24⟩ q6 q7 q8;refine hK _ _ _ ?_;clear hK;have zx:∀j,¬n2+3=n4+j:=fun j=>by omega
     cases hd:x.drop
     ·rw[hd] at hR;refine W.rseq (k:=2) rfl fun K hK=>?_;simp only[go_sem,q8,q4,zx,hd];refine hK _ _ _ ?_;clear hK K;refine W.condF (by simp only[go_sem]) ?_
      have hol:out'.length<24:=by
       have:=congrArg List.length q3;rw[hR] at this;simp at this;omega
      refine W.region (k:=4) rfl ?_;simp only[go_sem,c8,q8,q4,zx];refine VCall.heap (put_call (q2.next (.inl rfl) (by omega) (fun _ _=>rfl)) (by omega) (by omega) hol x.tok) fun r h5 n5 ⟨r1,r2,r3,r4⟩=>?_
      simp only[go_sem];refine nx2 _ _ _ P (out'++[x.tok]) (by omega) ?_ ?_ ?_ (by omega) ⟨c0,c6,c7,c8,c23,c24⟩ q6 q7
      ·exact r3.zero
      ·rw[←q3,hR];simp
      ·rw[hd];simp;omega
     ·rw[hd] at hR;refine W.rseq (k:=2) rfl fun K hK=>?_;simp only[go_sem,q8,q4,zx,hd];refine hK _ _ _ ?_;clear hK K;refine W.condT (by simp only[go_sem]) ?_;refine W.region (k:=3) rfl ?_;simp only[go_sem,q6]
      refine nx2 _ _ _ (P+1) out' (by omega) (q2.zero.next (.inl rfl) (by omega) (fun _ _=>rfl)) (by rw[←q3,hR];simp) (by rw[hd];simp;omega) (by have:=f5 hd;omega) ⟨c0,c6,c7,c8,c23,c24⟩ ?_ q7;rw[wrap64 (by omega) (by omega)];rfl
    clear hK
    refine W.block (W.while (fun mm t3 h3 n3=>∃(i':Nat) (out':List Int),mm=P - i'∧i'≤P∧n2+5≤n3∧PutS (n2+3) h3 n3 out'∧out'++((w.drop i').take (P - i')++R)=applF w l 0∧h3 (n2+3)=some (.cells [eEd x])∧(t3 0=.ro (w.map eIn)∧t3 6=.ptr 12 0 0∧t3 7=.ptr 13 0 0∧t3 8=.fn 44 [.ptr 13 0 0,.ptr 12 0 0]∧t3 23=.ro (l.map eEd)∧t3 24=.int .i64 l.length)∧t3 9=.int .i64 i'∧t3 25=.int .i64 j∧t3 11=.ptr (n2+3) 0 0) (P - i)
     ⟨i,out,rfl,hiP,by omega,i4.next (.inr (by omega)) (by omega) (fun y hy=>by simp only[go_sem,show ¬y=n2+3 by omega]),i5,by simp only[go_sem],⟨b0,b6,b7,b8,b23,b24⟩,b9,b25,rfl⟩ fun mm t3 h3 n3 ⟨i',out',g1,g2,g3,g4,g5,g6,⟨c0,c6,c7,c8,c23,c24⟩,c9,c25,c11⟩=>?_)
    have zx:∀j,¬n2+3=n3+j:=fun j=>by omega
    refine W.seq ?_;refine W.rseq (k:=4) rfl fun K hK=>?_;simp only[go_sem,c9,c11,g6,zx,hP];refine hK _ _ _ ?_;clear hK K
    refine W.cond rfl (fun hc=>?_) fun hc=>?_
    ·refine W.skip ?_;simp only[go_sem];have hi:i'<P:=by simp at hc;omega
     have hiw:i'<w.length:=by omega
     obtain⟨u,hu⟩:=get_some hiw;have huk:(w.map eIn)[i']?=some (eIn u):=by rw[List.getElem?_map,hu];rfl
     have hd:=drop_one hu
     have htk:(w.drop i').take (P - i')=u::(w.drop (i'+1)).take (P - (i'+1)):=by
      rw[hd,show P - i'=(P - (i'+1))+1 by omega,List.take_succ_cons]
     rw[htk] at g5
     have hol:out'.length<24:=by
      have:=congrArg List.length g5;simp at this;omega
     refine W.seq ?_;refine W.block ?_;refine W.region (k:=6) rfl ?_;simp only[go_sem,c0,c8,c9,huk,eIn];refine VCall.heap (put_call (g4.next (.inl rfl) (by omega) (fun _ _=>rfl)) (by omega) (by omega) hol u) fun r h4 n4 ⟨r1,r2,r3,r4⟩=>?_
     simp only[go_sem];refine W.region (k:=3) rfl ?_;simp only[go_sem,c9];refine⟨P - (i'+1),by omega,i'+1,out'++[u],rfl,by omega,by omega,r3.next (.inl rfl) (by omega) (fun _ _=>rfl),by rw[←g5];simp,r4.trans g6,⟨c0,c6,c7,c8,c23,c24⟩, ?_,c25,c11⟩;rw[wrap64 (by omega) (by omega)];rfl
    ·refine W.exit ?_;simp only[go_sem];have hi:i'=P:=by simp at hc;omega
     rw[hi,Nat.sub_self,List.take_zero,List.nil_append] at g5;exact nx4 _ _ _ out' (by omega) (g4.next (.inl rfl) (by omega) (fun _ _=>rfl)) g5 g6 ⟨c0,c6,c7,c8,c23,c24⟩ (by rw[←hi];exact c9) c25 c11
   ·refine W.exit ?_;simp only[go_sem];have hj:j=l.length:=by simp at hc;omega
    rw[hj,List.drop_length,applF] at i5;exact nxA _ _ _ i out (i4.next (.inl rfl) (by omega) (fun _ _=>rfl)) (by omega) i8 i5 ⟨b0,b6,b7,b8⟩ b9
  clear hK;refine W.block ?_;refine W.rseq (k:=4) rfl fun K hK=>?_;simp only[go_sem];refine VCall.frz 6 (fz42 w (by omega)) rfl ?_;try simp only[go_sem];refine hK _ _ _ ?_;clear hK K;refine W.condF (by simp only[go_sem,hw]) ?_;refine W.rseq (k:=6) rfl fun K hK=>?_;simp only[go_sem,List.length_map];refine VCall.frz 6 (fz43 l w.length hl) rfl ?_;try simp only[go_sem,List.length_map];refine hK _ _ _ ?_;clear hK K;refine W.condF (by simp only[go_sem,hm]) ?_;refine W.skip ?_;simp only[go_sem]
  exact nx _ rfl rfl
 obtain⟨r,h',n',hb,ov,rfl,ho⟩:=fin
 exact⟨_,h',n',hb,8,fun fr=>by
  have h1:rfs fr 7 h' [ov,.int .i64 0]=some [.ro ((applF w l 0).map eIn),.int .i64 0]:=rfs_cons (ho fr) (rfs_cons (by simp[rf]) rfs_nil)
  rw[rf,h1]⟩
end Go.Av
