/-
  Texts X1, X2, X3, X4 of this work, one behind the other. Conditions: none.
-/
import Derived.Test.YtjpkjbobcicfoaaGreatDoorV4
import Derived.Test.YtjpkjbobcicfoaaGreatDoorG1
set_option linter.unusedSimpArgs false
set_option linter.unusedVariables false
namespace Go.Av
open Go.Proofs
set_option maxRecDepth 100000
def belowB (w:List Int) (m:Int):Bool:=w.all fun t=>decide (0≤t) && decide (t<m)
theorem below_bad {w:List Int} {m t:Int} {j:Nat} (h:w[j]?=some t) (hb:t<0∨t≥m):belowB w m=false:=by
 unfold belowB;rw[List.all_eq_false];refine⟨t,List.mem_of_getElem? h, ?_⟩;simp only[Bool.and_eq_true,decide_eq_true_eq];omega
theorem below_all {w:List Int} {m:Int} (h:∀j,j<w.length→∀t,w[j]?=some t→0≤t∧t<m):belowB w m=true:=by
 unfold belowB;rw[List.all_eq_true];intro t ht;obtain⟨j,hj⟩:=List.getElem?_of_mem ht;have:=h j (List.getElem?_eq_some_iff.1 hj).1 t hj;simp only[Bool.and_eq_true,decide_eq_true_eq];exact this
set_option maxHeartbeats 4000000 in
theorem fz75 (w:List Int) (m:Int) (hw:w.length<2^40):PF pg Tq 75 [.ro (w.map eIn),.int .i64 m] (.bool (belowB w m)):=by
 refine Fb ?_;refine FH.of (N:=21) (rs:=#[.tmp 4]) Tryz.func75 rfl rfl (of_decide_eq_true rfl) rfl (by decide) ?_;refine W.rseq (k:=1) rfl fun K hK=>?_;simp only[go_sem];refine hK _ _ _ ?_;clear hK K;refine W.seq ?_;refine W.rseq (k:=3) rfl fun K hK=>?_;simp only[go_sem];refine hK _ _ _ ?_;clear hK K
 refine W.block (W.while (fun k t h n=>∃j:Nat,k=w.length - j∧j≤w.length∧(∀i,i<j→∀t,w[i]?=some t→0≤t∧t<m)∧(t 1=.int .i64 m∧t 7=.ro (w.map eIn)∧t 8=.int .i64 w.length)∧t 9=.int .i64 j) w.length
  ⟨0,by simp,by simp,fun i hi=>by omega,⟨rfl,rfl,by simp only[go_sem]⟩,rfl⟩ fun k t h n ⟨j,i1,i2,i3,i4,i5⟩=>?_)
 have i4':=i4;obtain⟨a1,a7,a8⟩:=i4';refine W.rseq (k:=1) rfl fun K hK=>?_;simp only[go_sem,a8,i5];refine hK _ _ _ ?_;clear hK K;refine W.seq ?_
 refine W.cond rfl (fun hc=>?_) fun hc=>?_
 ·refine W.skip ?_;simp only[go_sem];have hj:j<w.length:=by simp at hc;omega
  obtain⟨x,hx⟩:=get_some hj;refine W.seq (W.block ?_);refine W.rseq (k:=3) rfl fun K hK=>?_;simp only[go_sem,a7,i5,hx];refine hK _ _ _ ?_;clear hK K;refine W.rseq (k:=7) rfl fun K hK=>?_
  by_cases c1:x<0
  ·simp only[go_sem,decide_eq_true c1];refine hK _ _ _ ?_
   first|clear hK K|clear hK|skip
   refine W.condT (by simp only[go_sem]) ?_;refine W.rseq (k:=1) rfl fun K hK=>?_;simp only[go_sem];refine hK _ _ _ ?_;clear hK K;refine W.ret ?_;simp only[go_sem]
   rw[below_bad hx (.inl c1)]
  by_cases c2:x≥m
  ·simp only[go_sem,decide_eq_false c1,a1,decide_eq_true c2];refine hK _ _ _ ?_
   first|clear hK K|clear hK|skip
   refine W.condT (by simp only[go_sem]) ?_;refine W.rseq (k:=1) rfl fun K hK=>?_;simp only[go_sem];refine hK _ _ _ ?_;clear hK K;refine W.ret ?_;simp only[go_sem]
   rw[below_bad hx (.inr c2)]
  ·simp only[go_sem,decide_eq_false c1,a1,decide_eq_false c2];refine hK _ _ _ ?_
   first|clear hK K|clear hK|skip
   refine W.condF (by simp only[go_sem]) ?_;refine W.skip ?_;simp only[go_sem];refine W.region (k:=2) rfl ?_;simp only[go_sem,i5];refine⟨w.length - (j+1),by omega,j+1,rfl,by omega,fun i hi t ht=>?_,⟨a1,a7,a8⟩, ?_⟩
   ·by_cases e:i=j
    ·subst e;rw[hx] at ht;cases ht;omega
    ·exact i3 i (by omega) t ht
   ·rw[wrap64 (by omega) (by omega)];rfl
 ·refine W.exit ?_;simp only[go_sem];have hj:j=w.length:=by simp at hc;omega
  refine W.rseq (k:=1) rfl fun K hK=>?_;simp only[go_sem];refine hK _ _ _ ?_;clear hK K;refine W.ret ?_;simp only[go_sem]
  rw[below_all (fun i hi=>i3 i (by omega))]
def rightW (w:List Int):Bool:=decide ((w.length:Int)≤24) && belowB w 16
def fitsW (g:Gr) (w:List Int):Bool:=rightW w && belowB w g.terms
theorem fz42 (w:List Int) (hw:w.length<2^40):PF pg Tq 42 [.ro (w.map eIn)] (.bool (rightW w)):=by
 refine Fb ?_;refine FH.of (N:=10) (rs:=#[.tmp 2]) Tryz.func42 rfl rfl (of_decide_eq_true rfl) rfl (by decide) ?_;refine W.rseq (k:=1) rfl fun K hK=>?_;simp only[go_sem];refine hK _ _ _ ?_;clear hK K;refine W.rseq (k:=8) rfl fun K hK=>?_
 by_cases c1:(w.length:Int)≤24
 ·simp only[go_sem,decide_eq_true c1];refine VCall.frz 6 (fz75 w 16 hw) rfl ?_;simp only[go_sem];refine hK _ _ _ ?_
  first|clear hK K|clear hK|skip
  refine W.ret ?_;simp only[go_sem];rw[rightW,decide_eq_true c1];rfl
 ·simp only[go_sem,decide_eq_false c1];refine hK _ _ _ ?_
  first|clear hK K|clear hK|skip
  refine W.ret ?_;simp only[go_sem];rw[rightW,decide_eq_false c1];rfl
theorem fz28 (g:Gr) (w:List Int) (hw:w.length<2^40):PF pg Tq 28 [.agg (eGr g),.ro (w.map eIn)] (.bool (fitsW g w)):=by
 refine Fb ?_;refine FH.of (N:=13) (rs:=#[.tmp 4]) Tryz.func28 rfl rfl (of_decide_eq_true rfl) rfl (by decide) ?_;refine W.rseq (k:=2) rfl fun K hK=>?_;simp only[go_sem];refine hK _ _ _ ?_;clear hK K;refine W.rseq (k:=9) rfl fun K hK=>?_;simp only[go_sem];refine VCall.frz 6 (fz42 w hw) rfl ?_
 cases hr:rightW w
 ·simp only[go_sem];refine hK _ _ _ ?_
  first|clear hK K|clear hK|skip
  refine W.ret ?_;simp only[go_sem];rw[fitsW,hr];rfl
 ·simp only[go_sem];refine VCall.frz 6 (fz75 w g.terms hw) rfl ?_;simp only[go_sem];refine hK _ _ _ ?_
  first|clear hK K|clear hK|skip
  refine W.ret ?_;simp only[go_sem];rw[fitsW,hr];rfl
set_option maxHeartbeats 4000000 in
theorem fz99 (w:List Int) (hw:w.length<2^40):PF pg Tq 99 [.ro (w.map eIn)] (.bool (rightW w)):=by
 refine Fb ?_;refine FH.of (N:=25) (rs:=#[.tmp 2]) Tryz.func99 rfl rfl (of_decide_eq_true rfl) rfl (by decide) ?_;refine W.rseq (k:=1) rfl fun K hK=>?_;simp only[go_sem];refine hK _ _ _ ?_;clear hK K;refine W.seq ?_;refine W.rseq (k:=3) rfl fun K hK=>?_;simp only[go_sem];refine hK _ _ _ ?_;clear hK K
 by_cases c0:(w.length:Int)>24
 ·refine W.condT (by simp only[go_sem,decide_eq_true c0]) ?_;refine W.rseq (k:=1) rfl fun K hK=>?_;simp only[go_sem];refine hK _ _ _ ?_;clear hK K;refine W.ret ?_;simp only[go_sem]
  rw[rightW,decide_eq_false (by omega)];rfl
 refine W.condF (by simp only[go_sem,decide_eq_false c0]) ?_;refine W.skip ?_;simp only[go_sem];have hrw:rightW w=belowB w 16:=by rw[rightW,decide_eq_true (by omega)];rfl
 rw[hrw];refine W.seq ?_;refine W.rseq (k:=1) rfl fun K hK=>?_;simp only[go_sem];refine hK _ _ _ ?_;clear hK K
 refine W.block (W.while (fun k t h n=>∃j:Nat,k=w.length - j∧j≤w.length∧(∀i,i<j→∀t,w[i]?=some t→0≤t∧t<16)∧t 0=.ro (w.map eIn)∧t 3=.int .i64 j) w.length
  ⟨0,by simp,by simp,fun i hi=>by omega,rfl,rfl⟩ fun k t h n ⟨j,i1,i2,i3,i4,i5⟩=>?_)
 refine W.seq ?_;refine W.rseq (k:=4) rfl fun K hK=>?_;simp only[go_sem,i4,i5];refine hK _ _ _ ?_;clear hK K
 refine W.cond rfl (fun hc=>?_) fun hc=>?_
 ·refine W.skip ?_;simp only[go_sem];have hj:j<w.length:=by simp at hc;omega
  obtain⟨x,hx⟩:=get_some hj;refine W.seq (W.block ?_);refine W.rseq (k:=12) rfl fun K hK=>?_
  by_cases c1:x<0
  ·simp only[go_sem,i4,i5,hx,decide_eq_true c1];refine hK _ _ _ ?_
   first|clear hK K|clear hK|skip
   refine W.condT (by simp only[go_sem]) ?_;refine W.rseq (k:=1) rfl fun K hK=>?_;simp only[go_sem];refine hK _ _ _ ?_;clear hK K;refine W.ret ?_;simp only[go_sem]
   rw[below_bad hx (.inl c1)]
  by_cases c2:x>15
  ·simp only[go_sem,i4,i5,hx,decide_eq_false c1,decide_eq_true c2];refine hK _ _ _ ?_
   first|clear hK K|clear hK|skip
   refine W.condT (by simp only[go_sem]) ?_;refine W.rseq (k:=1) rfl fun K hK=>?_;simp only[go_sem];refine hK _ _ _ ?_;clear hK K;refine W.ret ?_;simp only[go_sem]
   rw[below_bad hx (.inr (by omega))]
  ·simp only[go_sem,i4,i5,hx,decide_eq_false c1,decide_eq_false c2];refine hK _ _ _ ?_
   first|clear hK K|clear hK|skip
   refine W.condF (by simp only[go_sem]) ?_;refine W.skip ?_;simp only[go_sem];refine W.region (k:=3) rfl ?_;simp only[go_sem,i5];refine⟨w.length - (j+1),by omega,j+1,rfl,by omega,fun i hi t ht=>?_,i4, ?_⟩
   ·by_cases e:i=j
    ·subst e;rw[hx] at ht;cases ht;omega
    ·exact i3 i (by omega) t ht
   ·rw[wrap64 (by omega) (by omega)];rfl
 ·refine W.exit ?_;simp only[go_sem];have hj:j=w.length:=by simp at hc;omega
  refine W.rseq (k:=1) rfl fun K hK=>?_;simp only[go_sem];refine hK _ _ _ ?_;clear hK K;refine W.ret ?_;simp only[go_sem]
  rw[below_all (fun i hi=>i3 i (by omega))]
set_option maxHeartbeats 4000000 in
theorem fz38 (g:Gr) (w:List Int) (hw:w.length<2^40):PF pg Tq 38 [.agg (eGr g),.ro (w.map eIn)] (.bool (fitsW g w)):=by
 refine Fb ?_;refine FH.of (N:=22) (rs:=#[.tmp 4]) Tryz.func38 rfl rfl (of_decide_eq_true rfl) rfl (by decide) ?_;refine W.rseq (k:=2) rfl fun K hK=>?_;simp only[go_sem];refine hK _ _ _ ?_;clear hK K;refine W.seq ?_;refine W.rseq (k:=3) rfl fun K hK=>?_;simp only[go_sem];refine VCall.frz 6 (fz99 w hw) rfl ?_;simp only[go_sem];refine hK _ _ _ ?_
 first|clear hK K|clear hK|skip
 cases hr:rightW w
 ·refine W.condT (by simp only[go_sem]) ?_;refine W.rseq (k:=1) rfl fun K hK=>?_;simp only[go_sem];refine hK _ _ _ ?_;clear hK K;refine W.ret ?_;simp only[go_sem]
  rw[fitsW,hr];rfl
 refine W.condF (by simp only[go_sem]) ?_;refine W.skip ?_;simp only[go_sem]
 have hpos:∀j:Nat,∀t,w[j]?=some t→0≤t:=fun j t ht=>by
  have h1:belowB w 16=true:=by
   rw[rightW,Bool.and_eq_true] at hr;exact hr.2
  have h2:=List.all_eq_true.1 h1 t (List.mem_of_getElem? ht);simp only[Bool.and_eq_true,decide_eq_true_eq] at h2;exact h2.1
 have hfw:fitsW g w=belowB w g.terms:=by rw[fitsW,hr];rfl
 rw[hfw];refine W.seq ?_;refine W.rseq (k:=1) rfl fun K hK=>?_;simp only[go_sem];refine hK _ _ _ ?_;clear hK K
 refine W.block (W.while (fun k t h n=>∃j:Nat,k=w.length - j∧j≤w.length∧0<n∧(∀i,i<j→∀t,w[i]?=some t→0≤t∧t<g.terms)∧h 0=some (.cells [eGr g])∧(t 1=.ro (w.map eIn)∧t 2=.ptr 0 0 0)∧t 5=.int .i64 j) w.length
  ⟨0,by simp,by simp,by omega,fun i hi=>by omega,by simp only[go_sem],⟨rfl,rfl⟩,rfl⟩ fun k t h n ⟨j,i1,i2,i0,i3,i6,i4,i5⟩=>?_)
 obtain⟨a1,a2⟩:=i4;refine W.seq ?_;refine W.rseq (k:=4) rfl fun K hK=>?_;simp only[go_sem,a1,i5];refine hK _ _ _ ?_;clear hK K
 refine W.cond rfl (fun hc=>?_) fun hc=>?_
 ·refine W.skip ?_;simp only[go_sem];have hj:j<w.length:=by simp at hc;omega
  obtain⟨x,hx⟩:=get_some hj;have l0:∀j,(0<n+j)=True:=fun j=>eq_true (by omega)
  refine W.seq (W.block ?_);refine W.dseq (k:=7) rfl fun K hK=>?_;simp only[go_sem,a1,a2,i5,i6,hx,l0];refine hK _ _ _ _ (by kernel_rfl) ?_;clear hK K
  by_cases c2:x≥g.terms
  ·refine W.condT (by simp only[go_sem,decide_eq_true c2]) ?_;refine W.rseq (k:=1) rfl fun K hK=>?_;simp only[go_sem];refine hK _ _ _ ?_;clear hK K;refine W.ret ?_;simp only[go_sem]
   rw[below_bad hx (.inr c2)]
  ·refine W.condF (by simp only[go_sem,decide_eq_false c2]) ?_;refine W.skip ?_;simp only[go_sem];refine W.region (k:=3) rfl ?_;simp only[go_sem,i5];refine⟨w.length - (j+1),by omega,j+1,rfl,by omega,by omega,fun i hi t ht=>?_,i6,⟨a1,a2⟩, ?_⟩
   ·by_cases e:i=j
    ·subst e;rw[hx] at ht;cases ht;have:=hpos i x hx;omega
    ·exact i3 i (by omega) t ht
   ·rw[wrap64 (by omega) (by omega)];rfl
 ·refine W.exit ?_;simp only[go_sem];have hj:j=w.length:=by simp at hc;omega
  refine W.rseq (k:=1) rfl fun K hK=>?_;simp only[go_sem];refine hK _ _ _ ?_;clear hK K;refine W.ret ?_;simp only[go_sem]
  rw[below_all (fun i hi=>i3 i (by omega))]
noncomputable def fitG (g:Gr) (w:List Int):Bool:=decide ((checkL g).2=0) && fitsW g w
theorem fz14 (g:Gr) (hg:g.Small) (w:List Int) (hw:w.length<2^40):PF pg Tq 14 [.agg (eGr g),.ro (w.map eIn)] (.bool (fitG g w)):=by
 refine Fb ?_;refine FH.of (N:=19) (rs:=#[.tmp 4]) Tryz.func14 rfl rfl (of_decide_eq_true rfl) rfl (by decide) ?_;refine W.rseq (k:=2) rfl fun K hK=>?_;simp only[go_sem];refine hK _ _ _ ?_;clear hK K;refine W.rseq (k:=7) rfl fun K hK=>?_;simp only[go_sem];refine VCall.frz 6 (fz37 g hg) rfl ?_;try simp only[go_sem];refine hK _ _ _ ?_;clear hK K;refine W.rseq (k:=8) rfl fun K hK=>?_
 by_cases c:(checkL g).2=0
 ·simp only[go_sem,decide_eq_true c];refine VCall.frz 6 (fz38 g w hw) rfl ?_;simp only[go_sem];refine hK _ _ _ ?_
  first|clear hK K|clear hK|skip
  refine W.ret ?_;simp only[go_sem];rw[fitG,decide_eq_true c];rfl
 ·simp only[go_sem,decide_eq_false c];refine hK _ _ _ ?_
  first|clear hK K|clear hK|skip
  refine W.ret ?_;simp only[go_sem];rw[fitG,decide_eq_false c];rfl
end Go.Av
namespace Go.Av
open Go.Proofs
set_option maxRecDepth 100000
def eRw (f:Nat→Nat):List AV:=(List.range 25).map fun t=> .int .u32 (f t:Nat)
theorem eR_len {f:Nat→Nat}:(eRw f).length=25:=by simp[eRw]
theorem eR_scal {f:Nat→Nat}:(eRw f).all scal=true:=by simp[eRw,scal]
theorem eR_tk {f:Nat→Nat}:(eRw f).take 25=eRw f:=List.take_of_length_le (by rw[eR_len];exact Nat.le_refl _)
theorem eR_dz:List.drop 25 ([.int .u32 0,.int .u32 0,.int .u32 0,.int .u32 0,.int .u32 0,.int .u32 0,.int .u32 0,.int .u32 0,.int .u32 0,.int .u32 0,.int .u32 0,.int .u32 0,.int .u32 0,.int .u32 0,.int .u32 0,.int .u32 0,.int .u32 0,.int .u32 0,.int .u32 0,.int .u32 0,.int .u32 0,.int .u32 0,.int .u32 0,.int .u32 0,.int .u32 0]:List AV)=[]:=rfl
theorem eR_z:([.int .u32 0,.int .u32 0,.int .u32 0,.int .u32 0,.int .u32 0,.int .u32 0,.int .u32 0,.int .u32 0,.int .u32 0,.int .u32 0,.int .u32 0,.int .u32 0,.int .u32 0,.int .u32 0,.int .u32 0,.int .u32 0,.int .u32 0,.int .u32 0,.int .u32 0,.int .u32 0,.int .u32 0,.int .u32 0,.int .u32 0,.int .u32 0,.int .u32 0]:List AV)=eRw fun _=>0:=rfl
theorem eR_get {f:Nat→Nat} {t:Nat} (h:t<25):((eRw f).drop t).take 1=[.int .u32 (f t:Nat)]:=by
 have e:(eRw f)[t]?=some (.int .u32 (f t:Nat)):=by simp[eRw,h]
 rw[List.take_one,List.head?_drop,e];rfl
theorem eR_over {f:Nat→Nat} {t v:Nat} (h:t<25):(eRw f).take t++(.int .u32 (v:Nat)::(eRw f).drop (t+1))=eRw (fun x=>if x=t then v else f x):=by
 refine List.ext_getElem? fun i=>?_
 rw[List.getElem?_append];have hl:((eRw f).take t).length=t:=by rw[List.length_take,eR_len];omega
 rw[hl];by_cases h1:i<t
 ·rw[if_pos h1,List.getElem?_take_of_lt h1];simp[eRw,show i<25 by omega,show ¬i=t by omega]
 ·rw[if_neg h1];by_cases h2:i=t
  ·subst h2;simp[eRw,h]
  ·obtain⟨j,hj⟩:∃j,i - t=j+1:=⟨i - t - 1,by omega⟩;rw[hj,List.getElem?_cons_succ,List.getElem?_drop,show t+1+j=i by omega];by_cases h3:i<25
   ·simp[eRw,h3,h2]
   ·rw[List.getElem?_eq_none (by rw[eR_len];omega),List.getElem?_eq_none (by rw[eR_len];omega)]
theorem rfs_in {fr:Bool} {d:Nat} {h:Heap} {f:Nat→Nat}:∀l:List Nat,rfs fr (d+2) h (l.map fun t=> .int .u32 (f t:Nat))=some (l.map fun t=> .int .u32 (f t:Nat))
 |[]=>rfs_nil
 |x::l=>rfs_cons (by simp[rf]) (rfs_in l)
theorem rfs_rw {fr:Bool} {d:Nat} {h:Heap} {f:Nat→Nat}:rfs fr (d+2) h (eRw f)=some (eRw f):=rfs_in _
theorem shlw {x t:Nat} (h:t<32):IntKind.wrap .u32 ((x:Int)*2^(min t 32))=((x*2^t % 2^32:Nat):Int):=by
 rw[Nat.min_eq_left (by omega)];have e2:(x:Int)*(2:Int)^t=((x*2^t:Nat):Int):=by simp
 rw[e2];unfold IntKind.wrap;simp only[IntKind.bits,IntKind.signed];simp
def rowAt (rows:List (Nat→Nat)) (j:Nat):Nat→Nat:=rows.getD j fun _=>0
theorem row_get {rows:List (Nat→Nat)} {j:Nat} (h:j<rows.length):rows[j]?=some (rowAt rows j):=by
 simp[rowAt,h]
def RwIn (rows:List (Nat→Nat)):Prop:=∀j i,rowAt rows j i<2^32
set_option maxHeartbeats 4000000 in
theorem fz257 (f:Nat→Nat) (non:Bool) (ν k:Nat) (hν:ν<24) (hk:k<32):PF pg Tq 257 [.agg (eRw f),.agg [.bool non,.int .i64 ν],.int .i64 k] (.int .u32 ((f ν*2^k % 2^32:Nat):Int)):=by
 refine Fi ?_;refine FH.of (N:=14) (rs:=#[.tmp 6]) Tryz.func257 rfl rfl (of_decide_eq_true rfl) rfl (by decide) ?_;refine W.rseq (k:=3) rfl fun K hK=>?_;simp only[go_sem,eR_scal];refine hK _ _ _ ?_;clear hK K;refine W.rseq (k:=8) rfl fun K hK=>?_;simp only[go_sem,eR_len,eR_get (show ν<25 by omega),Nat.mul_one,show(ν:Int)<24 by omega,shlw hk,show ν+1≤25 by omega];refine hK _ _ _ ?_;clear hK K;refine W.ret ?_;simp only[go_sem]
def overB (s:Sy) (frm:Nat) (rows:List (Nat→Nat)):Bool:=s.non && (List.range rows.length).any fun a=>frm.testBit a && (rowAt rows a 24).testBit s.n.toNat
set_option maxHeartbeats 4000000 in
theorem fz209 (s:Sy) (frm:Nat) (hf:frm<2^32) (rows:List (Nat→Nat)) (hr:rows.length≤31) (hrw:RwIn rows) (hs:s.non=true→0≤s.n∧s.n<24):PF pg Tq 209 [.agg (eSy s),.int .u32 frm,.ro (rows.map eRw)] (.bool (overB s frm rows)):=by
 refine Fb ?_;refine FH.of (N:=35) (rs:=#[.tmp 6]) Tryz.func209 rfl rfl (of_decide_eq_true rfl) rfl (by decide) ?_;refine W.rseq (k:=2) rfl fun K hK=>?_;simp only[go_sem];refine hK _ _ _ ?_;clear hK K;refine W.seq ?_;refine W.rseq (k:=3) rfl fun K hK=>?_;simp only[go_sem];refine hK _ _ _ ?_;clear hK K
 refine W.block (W.while (fun m t h n=>∃j:Nat,m=rows.length - j∧j≤rows.length∧0<n∧(s.non=true→∀a,a<j→(frm.testBit a && (rowAt rows a 24).testBit s.n.toNat)=false)∧h 0=some (.cells [eSy s])∧(t 1=.int .u32 frm∧t 3=.ptr 0 0 0∧t 9=.ro (rows.map eRw)∧t 10=.int .i64 rows.length)∧t 11=.int .i64 j) rows.length
  ⟨0,by simp,by simp,by omega,fun _ a ha=>by omega,by simp only[go_sem],⟨rfl,rfl,rfl,by simp only[go_sem]⟩,rfl⟩ fun m t h n ⟨j,i1,i2,i3,i4,i5,i6,i7⟩=>?_)
 have i6':=i6;obtain⟨a1,a3,a9,a10⟩:=i6';refine W.rseq (k:=1) rfl fun K hK=>?_;simp only[go_sem,a10,i7];refine hK _ _ _ ?_;clear hK K;refine W.seq ?_
 refine W.cond rfl (fun hc=>?_) fun hc=>?_
 ·refine W.skip ?_;simp only[go_sem];have hj:j<rows.length:=by simp at hc;omega
  have hg:=row_get hj;have z0:∀j,¬0=n+j:=fun j=>by omega
  refine W.seqk fun K hK=>?_
  have nx:∀(t':Fr) (h':Heap) (n':Nat),0<n'→(s.non=true→(frm.testBit j && (rowAt rows j 24).testBit s.n.toNat)=false)→h' 0=some (.cells [eSy s])→(t' 1=.int .u32 frm∧t' 3=.ptr 0 0 0∧t' 9=.ro (rows.map eRw)∧t' 10=.int .i64 rows.length)→t' 11=.int .i64 j→K t' h' n':=by
   intro t' h' n' e1 e2 e3 e4 e5;refine hK _ _ _ ?_;clear hK K;refine W.region (k:=2) rfl ?_;simp only[go_sem,e5];refine⟨rows.length - (j+1),by omega,j+1,rfl,by omega,by omega,fun hn a ha=>?_,e3,e4, ?_⟩
   ·by_cases e:a=j
    ·rw[e];exact e2 hn
    ·exact i4 hn a (by omega)
   ·rw[wrap64 (by omega) (by omega)];rfl
  clear hK;refine W.block ?_;refine W.rseq (k:=6) rfl fun K hK=>?_;simp only[go_sem,a9,i7,hg,eR_len,eR_scal,eR_tk,eR_dz,List.append_nil];refine hK _ _ _ ?_;clear hK K;refine W.rseq (k:=18) rfl fun K hK=>?_
  have hw1:=shr32 (x:=frm) (show j<32 by omega);have hw2:=and32 (x:=frm / 2^j) (Nat.lt_of_le_of_lt (Nat.div_le_self _ _) hf);cases hn:s.non
  ·simp only[go_sem,a3,i5,z0,hn];refine hK _ _ _ ?_
   first|clear hK K|clear hK|skip
   refine W.condF (by simp only[go_sem]) ?_;refine W.skip ?_;simp only[go_sem];exact nx _ _ _ (by omega) (fun e=>by rw[hn] at e;cases e) (by simp only[go_sem,z0,i5]) i6 i7
  obtain⟨hs1,hs2⟩:=hs hn;obtain⟨ν,hν⟩:∃ν:Nat,s.n=ν:=⟨s.n.toNat,by omega⟩;have hνt:s.n.toNat=ν:=by omega
  rw[hνt] at nx;have hw3:=shr32 (x:=rowAt rows j 24) (show ν<32 by omega);have hw4:=and32 (x:=rowAt rows j 24 / 2^ν) (Nat.lt_of_le_of_lt (Nat.div_le_self _ _) (hrw j 24));cases hb:frm.testBit j
  ·simp only[go_sem,a3,i5,z0,hn,a1,hw1,hw2,bit_is1,hb];refine hK _ _ _ ?_
   first|clear hK K|clear hK|skip
   refine W.condF (by simp only[go_sem]) ?_;refine W.skip ?_;simp only[go_sem];exact nx _ _ _ (by omega) (fun _=>by rw[hb];rfl) (by simp only[go_sem,z0,i5]) i6 i7
  ·simp only[go_sem,a3,i5,z0,hn,a1,hw1,hw2,bit_is1,hb,eR_len,eR_get (show 24<25 by omega),hν,hw3,hw4];refine hK _ _ _ ?_
   first|clear hK K|clear hK|skip
   cases hb2:(rowAt rows j 24).testBit ν
   ·refine W.condF (by simp only[go_sem,hb2]) ?_;refine W.skip ?_;simp only[go_sem];exact nx _ _ _ (by omega) (fun _=>by rw[hb,hb2];rfl) (by simp only[go_sem,z0,i5]) i6 i7
   ·refine W.condT (by simp only[go_sem,hb2]) ?_;refine W.rseq (k:=1) rfl fun K hK=>?_;simp only[go_sem];refine hK _ _ _ ?_;clear hK K;refine W.ret ?_;simp only[go_sem]
    rw[overB,hn,Bool.true_and,eq_comm];refine congrArg AV.bool (List.any_eq_true.2 ⟨j,List.mem_range.2 hj, ?_⟩);rw[hb,hνt,hb2];rfl
 ·refine W.exit ?_;simp only[go_sem];have hj:j=rows.length:=by simp at hc;omega
  refine W.rseq (k:=1) rfl fun K hK=>?_;simp only[go_sem];refine hK _ _ _ ?_;clear hK K;refine W.ret ?_;simp only[go_sem]
  rw[overB];cases hn:s.non
  ·rfl
  ·rw[Bool.true_and,eq_comm,List.any_eq_false.2];intro a ha;rw[i4 hn a (by rw[hj];exact List.mem_range.1 ha)];simp
def stepN (s:Sy) (frm:Nat) (w:List Int) (rows:List (Nat→Nat)):Nat→Nat
 |0=>0
 |j+1=>if frm.testBit j then (if s.non then stepN s frm w rows j|||(rowAt rows j s.n.toNat*2^j % 2^32) else if w[j]?=some s.n then stepN s frm w rows j|||2^(j+1) else stepN s frm w rows j) else stepN s frm w rows j
def stepF (s:Sy) (frm:Nat) (w:List Int) (rows:List (Nat→Nat)):Nat:=stepN s frm w rows rows.length
theorem stepN_lt {s:Sy} {frm:Nat} {w:List Int} {rows:List (Nat→Nat)}:∀j,j≤31→stepN s frm w rows j<2^32
 |0,_=>by rw[stepN];decide
 |j+1,hj=>by
  have ih:=stepN_lt (s:=s) (frm:=frm) (w:=w) (rows:=rows) j (by omega);rw[stepN];split
  ·split
   ·exact Nat.or_lt_two_pow ih (Nat.mod_lt _ (by decide))
   ·split
    ·exact Nat.or_lt_two_pow ih (Nat.pow_lt_pow_right (by decide) (by omega))
    ·exact ih
  ·exact ih
theorem stepN_bit {s:Sy} {frm:Nat} {w:List Int} {rows:List (Nat→Nat)} {c:Nat} (hc:c<32):∀j,(stepN s frm w rows j).testBit c=true↔∃a,a<j∧frm.testBit a=true∧((s.non=true∧a≤c∧(rowAt rows a s.n.toNat).testBit (c - a)=true)∨(s.non=false∧w[a]?=some s.n∧c=a+1))
 |0=>by
  rw[stepN];simp
 |j+1=>by
  have ih:=stepN_bit (s:=s) (frm:=frm) (w:=w) (rows:=rows) hc j
  have key:(stepN s frm w rows (j+1)).testBit c=true↔(stepN s frm w rows j).testBit c=true∨(frm.testBit j=true∧((s.non=true∧j≤c∧(rowAt rows j s.n.toNat).testBit (c - j)=true)∨(s.non=false∧w[j]?=some s.n∧c=j+1))):=by
   rw[stepN];cases hb:frm.testBit j
   ·simp
   ·cases hn:s.non
    ·by_cases hw:w[j]?=some s.n
     ·simp only[hw,if_true,Bool.false_eq_true,if_false,Nat.testBit_or,Nat.testBit_two_pow,Bool.or_eq_true,decide_eq_true_eq,true_and,false_and,false_or];constructor
      ·rintro (h|h)
       ·exact .inl h
       ·exact .inr h.symm
      ·rintro (h|h)
       ·exact .inl h
       ·exact .inr h.symm
     ·simp[hw]
    ·simp only[if_true,Nat.testBit_or,Nat.testBit_mod_two_pow,Bool.or_eq_true,Bool.and_eq_true,decide_eq_true_eq,hc,true_and];rw[Nat.mul_comm,Nat.testBit_two_pow_mul];simp[ge_iff_le]
  rw[key,ih];constructor
  ·rintro (⟨a,h1,h2,h3⟩|⟨h2,h3⟩)
   ·exact⟨a,by omega,h2,h3⟩
   ·exact⟨j,by omega,h2,h3⟩
  ·rintro ⟨a,h1,h2,h3⟩
   by_cases e:a=j
   ·subst e;exact .inr ⟨h2,h3⟩
   ·exact .inl ⟨a,by omega,h2,h3⟩
set_option maxHeartbeats 8000000 in
theorem fz210 (s:Sy) (frm:Nat) (hf:frm<2^32) (w:List Int) (hw:w.length≤30) (rows:List (Nat→Nat)) (hr:rows.length≤31) (hrw:RwIn rows) (hs:s.non=true→0≤s.n∧s.n<24):PF pg Tq 210 [.agg (eSy s),.int .u32 frm,.ro (w.map eIn),.ro (rows.map eRw)] (.int .u32 (stepF s frm w rows:Nat)):=by
 refine Fi ?_;refine FH.of (N:=55) (rs:=#[.tmp 8]) Tryz.func210 rfl rfl (of_decide_eq_true rfl) rfl (by decide) ?_;refine W.rseq (k:=2) rfl fun K hK=>?_;simp only[go_sem];refine hK _ _ _ ?_;clear hK K;refine W.rseq (k:=1) rfl fun K hK=>?_;simp only[go_sem];refine hK _ _ _ ?_;clear hK K;refine W.seqk fun K hK=>?_;refine W.rseq (k:=3) rfl fun K hK=>?_;simp only[go_sem];refine hK _ _ _ ?_;clear hK K
 have nx0:∀(t':Fr) (h':Heap) (n':Nat),t' 9=.int .u32 (stepF s frm w rows:Nat)→K t' h' n':=by
  intro t' h' n' e1;refine hK _ _ _ ?_;clear hK K;refine W.rseq (k:=2) rfl fun K hK=>?_;simp only[go_sem,e1];refine hK _ _ _ ?_;clear hK K;refine W.ret ?_;simp only[go_sem]
 clear hK
 refine W.block (W.while (fun m t h n=>∃j:Nat,m=rows.length - j∧j≤rows.length∧0<n∧h 0=some (.cells [eSy s])∧(t 1=.int .u32 frm∧t 2=.ro (w.map eIn)∧t 3=.ro (rows.map eRw)∧t 4=.ptr 0 0 0∧t 12=.int .i64 rows.length)∧t 13=.int .i64 j∧t 9=.int .u32 (stepN s frm w rows j:Nat)) rows.length
  ⟨0,by simp,by simp,by omega,by simp only[go_sem],⟨rfl,rfl,rfl,rfl,by simp only[go_sem]⟩,rfl,rfl⟩ fun m t h n ⟨j,i1,i2,i3,i5,i6,i7,i8⟩=>?_)
 have i6':=i6;obtain⟨a1,a2,a3,a4,a12⟩:=i6';refine W.rseq (k:=1) rfl fun K hK=>?_;simp only[go_sem,a12,i7];refine hK _ _ _ ?_;clear hK K;refine W.seq ?_
 refine W.cond rfl (fun hc=>?_) fun hc=>?_
 ·refine W.skip ?_;simp only[go_sem];have hj:j<rows.length:=by simp at hc;omega
  have hg:=row_get hj;have z0:∀j,¬0=n+j:=fun j=>by omega
  have l0:∀j,(0<n+j)=True:=fun j=>eq_true (by omega)
  have hlt:=stepN_lt (s:=s) (frm:=frm) (w:=w) (rows:=rows) j (by omega);have hst:stepN s frm w rows (j+1)=if frm.testBit j then (if s.non then stepN s frm w rows j|||(rowAt rows j s.n.toNat*2^j % 2^32) else if w[j]?=some s.n then stepN s frm w rows j|||2^(j+1) else stepN s frm w rows j) else stepN s frm w rows j:=rfl
  refine W.seqk fun K hK=>?_
  have nx:∀(t':Fr) (h':Heap) (n':Nat),0<n'→h' 0=some (.cells [eSy s])→(t' 1=.int .u32 frm∧t' 2=.ro (w.map eIn)∧t' 3=.ro (rows.map eRw)∧t' 4=.ptr 0 0 0∧t' 12=.int .i64 rows.length)→t' 13=.int .i64 j→t' 9=.int .u32 (stepN s frm w rows (j+1):Nat)→K t' h' n':=by
   intro t' h' n' e1 e2 e3 e4 e5;refine hK _ _ _ ?_;clear hK K;refine W.region (k:=2) rfl ?_;simp only[go_sem,e4];refine⟨rows.length - (j+1),by omega,j+1,rfl,by omega,by omega,e2,e3, ?_,e5⟩;rw[wrap64 (by omega) (by omega)];rfl
  clear hK;have hw1:=shr32 (x:=frm) (show j<32 by omega);have hw2:=and32 (x:=frm / 2^j) (Nat.lt_of_le_of_lt (Nat.div_le_self _ _) hf);refine W.block ?_;refine W.rseq (k:=2) rfl fun K hK=>?_;simp only[go_sem,i7];refine hK _ _ _ ?_;clear hK K;refine W.block ?_;refine W.rseq (k:=6) rfl fun K hK=>?_;simp only[go_sem,a1,hw1,hw2,bit_zero];refine hK _ _ _ ?_;clear hK K
  cases hb:frm.testBit j
  ·rw[hb] at hst;simp only[Bool.false_eq_true,if_false] at hst;refine W.condT (by simp only[go_sem,hb]) ?_;refine W.skip ?_;simp only[go_sem];exact nx _ _ _ (by omega) i5 i6 i7 (by rw[hst];exact i8)
  rw[hb] at hst;simp only[if_true] at hst;refine W.condF (by simp only[go_sem,hb]) ?_;refine W.rseq (k:=3) rfl fun K hK=>?_;simp only[go_sem,a4,i5];refine hK _ _ _ ?_;clear hK K
  cases hn:s.non
  ·rw[hn] at hst;simp only[Bool.false_eq_true,if_false] at hst;refine W.condF (by simp only[go_sem,hn]) ?_;refine W.dseq (k:=14) rfl fun K hK=>?_
   by_cases hjw:j<w.length
   ·obtain⟨x,hx⟩:=get_some hjw;by_cases hxs:x=s.n
    ·simp only[go_sem,a2,a4,i5,l0,hx,decide_eq_true (show(j:Int)<(w.length:Int) by omega),decide_eq_true hxs];refine hK _ _ _ _ (by kernel_rfl) ?_;clear hK K;refine W.condT (by simp only[go_sem]) ?_;rw[hx,hxs,if_pos rfl] at hst;refine W.region (k:=6) rfl ?_;simp only[go_sem,i8,wrap64 (show -9223372036854775808≤(j:Int)+1 by omega) (by omega),show(0:Int)≤(j:Int)+1 by omega,show((j:Int)+1).toNat=j+1 by omega,shl32 (show j+1<32 by omega),or32 hlt (Nat.pow_lt_pow_right (by decide) (show j+1<32 by omega))];exact nx _ _ _ (by omega) i5 i6 i7 (by rw[hst];rfl)
    ·simp only[go_sem,a2,a4,i5,l0,hx,decide_eq_true (show(j:Int)<(w.length:Int) by omega),decide_eq_false hxs];refine hK _ _ _ _ (by kernel_rfl) ?_;clear hK K;refine W.condF (by simp only[go_sem]) ?_;refine W.skip ?_;simp only[go_sem];rw[if_neg (by rw[hx];intro e;cases e;exact hxs rfl)] at hst;exact nx _ _ _ (by omega) i5 i6 i7 (by rw[hst];exact i8)
   ·simp only[go_sem,a2,decide_eq_false (show ¬(j:Int)<(w.length:Int) by omega)];refine hK _ _ _ _ (by kernel_rfl) ?_;clear hK K;refine W.condF (by simp only[go_sem]) ?_;refine W.skip ?_;simp only[go_sem];rw[if_neg (by rw[List.getElem?_eq_none (by omega)];intro e;cases e)] at hst;exact nx _ _ _ (by omega) i5 i6 i7 (by rw[hst];exact i8)
  ·rw[hn] at hst;simp only[if_true] at hst;obtain⟨hs1,hs2⟩:=hs hn;obtain⟨ν,hν⟩:∃ν:Nat,s.n=ν:=⟨s.n.toNat,by omega⟩;have hνt:s.n.toNat=ν:=by omega
   rw[hνt] at hst;refine W.condT (by simp only[go_sem,hn]) ?_;have hor:=or32 hlt (Nat.mod_lt (rowAt rows j ν*2^j) (show 0<2^32 by decide));refine W.draw (k:=10) rfl ?_;simp only[go_sem,i8,a3,a4,i5,l0,hg,eR_len,eR_tk,hν];refine VCall.frz 6 (fz257 (rowAt rows j) s.non ν j (by omega) (by omega)) ?_ ?_
   ·exact rfs_cons (by simp[rf,rfs_rw]) (rfs_cons rfl (rfs_cons rfl rfs_nil))
   simp only[go_sem,hor];refine⟨by kernel_rfl, ?_⟩;exact nx _ _ _ (by omega) i5 i6 i7 (by rw[hst];rfl)
 ·refine W.exit ?_;simp only[go_sem];have hj:j=rows.length:=by simp at hc;omega
  rw[hj] at i8;exact nx0 _ _ _ i8
end Go.Av
namespace Go.Av
open Go.Proofs
set_option maxRecDepth 100000
def comesL (w:List Int) (rows:List (Nat→Nat)):List Sy→Nat→Bool→Nat×Bool
 |[],k,more=>(k,more)
 |s::r,k,more=>comesL w rows r (stepF s k w rows) ((more||overB s k rows)||(stepF s k w rows).testBit w.length)
def comesF (w:List Int) (rows:List (Nat→Nat)) (p:Pr):Nat×Bool:=comesL w rows p.right 1 (decide (w.length=0))
theorem stepF_lt {s:Sy} {frm:Nat} {w:List Int} {rows:List (Nat→Nat)} (h:rows.length≤31):stepF s frm w rows<2^32:=stepN_lt _ h
set_option maxHeartbeats 8000000 in
theorem fz143 (p:Pr) (w:List Int) (hw:w.length≤30) (rows:List (Nat→Nat)) (hr:rows.length≤31) (hrw:RwIn rows) (hl:p.right.length<2^40) (hs:∀s∈p.right,s.non=true→0≤s.n∧s.n<24):
  PF pg Tq 143 [.agg (ePr p),.ro (w.map eIn),.ro (rows.map eRw)] (.tup [.int .u32 ((comesF w rows p).1:Nat),.bool (comesF w rows p).2]):=by
 have fin:FH pg Tq 143 [.agg (ePr p),.ro (w.map eIn),.ro (rows.map eRw)] h0 0 fun r _ _=>r=.tup [.int .u32 ((comesF w rows p).1:Nat),.bool (comesF w rows p).2]:=by
  refine FH.of (N:=46) (rs:=#[.tmp 6,.tmp 7]) Tryz.func143 rfl rfl (of_decide_eq_true rfl) rfl (by decide) ?_;refine W.rseq (k:=3) rfl fun K hK=>?_;simp only[go_sem];refine hK _ _ _ ?_;clear hK K;refine W.rseq (k:=5) rfl fun K hK=>?_;simp only[go_sem];refine hK _ _ _ ?_;clear hK K;refine W.seq ?_;refine W.rseq (k:=4) rfl fun K hK=>?_;simp only[go_sem];refine hK _ _ _ ?_;clear hK K
  refine W.block (W.while (fun m t h n=>∃(j k:Nat) (more:Bool),m=p.right.length - j∧j≤p.right.length∧0<n∧k<2^32∧comesL w rows (p.right.drop j) k more=comesF w rows p∧(t 1=.ro (w.map eIn)∧t 2=.ro (rows.map eRw)∧t 16=.ro (p.right.map eSy)∧t 17=.int .i64 p.right.length)∧t 8=.int .u32 k∧t 9=.bool more∧t 18=.int .i64 j) p.right.length
   ⟨0,1,decide (w.length=0),by simp,by simp,by omega,by decide,rfl,⟨rfl,rfl,rfl,by simp only[go_sem]⟩,rfl, ?_,rfl⟩ fun m t h n ⟨j,k,more,i1,i2,i3,i4,i5,i6,i7,i8,i9⟩=>?_)
  ·simp only[go_sem];exact congrArg AV.bool (decide_eq_decide.2 (by omega))
  have i6':=i6;obtain⟨a1,a2,a16,a17⟩:=i6';refine W.rseq (k:=1) rfl fun K hK=>?_;simp only[go_sem,a17,i9];refine hK _ _ _ ?_;clear hK K;refine W.seq ?_
  refine W.cond rfl (fun hc=>?_) fun hc=>?_
  ·refine W.skip ?_;simp only[go_sem];have hj:j<p.right.length:=by simp at hc;omega
   obtain⟨s,hsj⟩:=get_some hj
   have hsd:p.right.drop j=s::p.right.drop (j+1):=by
    rw[List.drop_eq_getElem_cons hj]
    congr 1
    exact(List.getElem_eq_iff hj).2 hsj
   have hsm:=hs s (List.mem_of_getElem? hsj);rw[hsd,comesL] at i5;obtain⟨k2,hk2⟩:∃k2,k2=stepF s k w rows:=⟨_,rfl⟩;have hk2l:k2<2^32:=by rw[hk2];exact stepF_lt hr
   have h134:=fz209 s k i4 rows hr hrw hsm;have h135:=fz210 s k i4 w hw rows hr hrw hsm;rw[←hk2] at i5 h135;refine W.seqk fun K hK=>?_
   have nx:∀(t':Fr) (h':Heap) (n':Nat),0<n'→(t' 1=.ro (w.map eIn)∧t' 2=.ro (rows.map eRw)∧t' 16=.ro (p.right.map eSy)∧t' 17=.int .i64 p.right.length)→t' 8=.int .u32 k2→t' 9=.bool ((more||overB s k rows)||k2.testBit w.length)→t' 18=.int .i64 j→K t' h' n':=by
    intro t' h' n' e1 e2 e3 e4 e5;refine hK _ _ _ ?_;clear hK K;refine W.region (k:=2) rfl ?_;simp only[go_sem,e5];refine⟨p.right.length - (j+1),by omega,j+1,k2,_,rfl,by omega,by omega,hk2l,i5,e2,e3,e4, ?_⟩;rw[wrap64 (by omega) (by omega)];rfl
   clear hK;have hw1:=shr32 (x:=k2) (show w.length<32 by omega);have hw2:=and32 (x:=k2 / 2^w.length) (Nat.lt_of_le_of_lt (Nat.div_le_self _ _) hk2l);refine W.block ?_;refine W.rseq (k:=4) rfl fun K hK=>?_;simp only[go_sem,a16,i9,hsj];refine hK _ _ _ ?_;clear hK K;refine W.rseq (k:=8) rfl fun K hK=>?_
   have nx5:∀(t':Fr) (h':Heap) (n':Nat),0<n'→(t' 1=.ro (w.map eIn)∧t' 2=.ro (rows.map eRw)∧t' 16=.ro (p.right.map eSy)∧t' 17=.int .i64 p.right.length)→t' 8=.int .u32 k→t' 9=.bool (more||overB s k rows)→t' 18=.int .i64 j→t' 11=.ptr (n+3) 0 0→h' (n+3)=some (.cells [eSy s])→K t' h' n':=by
    intro t' h' n' e1 e2 e3 e4 e5 e6 e7;refine hK _ _ _ ?_;clear hK K;have e2':=e2;obtain⟨a1,a2,a16,a17⟩:=e2';refine W.rseq (k:=6) rfl fun K hK=>?_;simp only[go_sem,e6,e7,e3,a1,a2];refine VCall.frz 6 h135 rfl ?_;simp only[go_sem];refine hK _ _ _ ?_
    first|clear hK K|clear hK|skip
    cases hm:more||overB s k rows
    ·refine W.region (k:=10) rfl ?_;simp only[go_sem,e4,hm,a1,hw1,hw2,bit_is1];exact nx _ _ _ (by omega) e2 rfl (by rw[hm];rfl) e5
    ·refine W.region (k:=10) rfl ?_;simp only[go_sem,e4,hm];exact nx _ _ _ (by omega) e2 rfl (by rw[hm];rfl) e5
   clear hK;cases hm:more
   ·simp only[go_sem,i8,hm,i7,a2];refine VCall.frz 6 h134 rfl ?_;simp only[go_sem];exact nx5 _ _ _ (by omega) i6 i7 (by rw[hm];rfl) i9 rfl (by simp only[go_sem])
   ·simp only[go_sem,i8,hm];exact nx5 _ _ _ (by omega) i6 i7 (by rw[hm];rfl) i9 rfl (by simp only[go_sem])
  ·refine W.exit ?_;simp only[go_sem];have hj:j=p.right.length:=by simp at hc;omega
   rw[hj,List.drop_length,comesL] at i5;refine W.rseq (k:=4) rfl fun K hK=>?_;simp only[go_sem,i7,i8];refine hK _ _ _ ?_;clear hK K;refine W.ret ?_;simp only[go_sem]
   rw[←i5]
 obtain⟨r,h',n',hb,rfl⟩:=fin;exact⟨_,h',n',hb,3,fun fr=>rfl⟩
end Go.Av
namespace Go.Av
open Go.Proofs
set_option maxRecDepth 100000
theorem eR_d {f:Nat→Nat}:List.drop 25 (eRw f)=[]:=List.drop_eq_nil_of_le (by rw[eR_len];exact Nat.le_refl _)
def putR (f:Nat→Nat) (left:Nat) (r:Nat×Bool):Nat→Nat:=fun i=>if i=24 then (if r.2=true then f 24|||2^left else f 24) else if i=left then f left|||r.1 else f i
def muR (f:Nat→Nat):Nat:=((List.range 25).map fun i=>2^32 - f i).sum
theorem sum_le:∀(l:List Nat) (f g:Nat→Nat),(∀i∈l,f i≤g i)→(l.map f).sum≤(l.map g).sum
 |[],f,g,_=>Nat.le_refl _
 |x::l,f,g,h=>by
  have h1:=sum_le l f g fun i hi=>h i (by simp[hi])
  have h2:=h x (by simp);simp only[List.map_cons,List.sum_cons];omega
theorem sum_lt:∀(l:List Nat) (f g:Nat→Nat),(∀i∈l,f i≤g i)→(∃i∈l,f i<g i)→(l.map f).sum<(l.map g).sum
 |[],f,g,_,⟨i,hi,_⟩=>by cases hi
 |x::l,f,g,h,⟨i,hi,hlt⟩=>by
  have h1:=sum_le l f g fun i hi=>h i (by simp[hi])
  have h2:=h x (by simp);simp only[List.map_cons,List.sum_cons];rcases List.mem_cons.1 hi with rfl|hi
  ·omega
  ·have:=sum_lt l f g (fun i hi=>h i (by simp[hi])) ⟨i,hi,hlt⟩;omega
def RwOk (f:Nat→Nat):Prop:=(∀i,f i<2^32)∧∀i,25≤i→f i=0
theorem muR_lt {f g:Nat→Nat} (hf:RwOk f) (hg:RwOk g) (hle:∀i,f i≤g i) (hne:f≠g):muR g<muR f:=by
 have:∃i,f i≠g i:=by
  refine Classical.byContradiction fun h=>hne (funext fun i=>Classical.byContradiction fun h2=>h ⟨i,h2⟩)
 obtain⟨i,hi⟩:=this
 have hi25:i<25:=by
  by_cases h:i<25
  ·exact h
  ·exact absurd (by rw[hf.2 i (by omega),hg.2 i (by omega)]) hi
 refine sum_lt _ _ _ (fun j _=>?_) ⟨i,List.mem_range.2 hi25, ?_⟩
 ·have:=hle j;omega
 ·have:=hle i;have:=hg.1 i;omega
theorem putR_ok {f:Nat→Nat} {left:Nat} {r:Nat×Bool} (hf:RwOk f) (hl:left<24) (hr:r.1<2^32):RwOk (putR f left r):=by
 refine⟨fun i=>?_,fun i hi=>?_⟩
 ·unfold putR;split
  ·split
   ·exact Nat.or_lt_two_pow (hf.1 24) (Nat.pow_lt_pow_right (by decide) (by omega))
   ·exact hf.1 24
  ·split
   ·exact Nat.or_lt_two_pow (hf.1 left) hr
   ·exact hf.1 i
 ·unfold putR;rw[if_neg (by omega),if_neg (by omega)];exact hf.2 i hi
theorem putR_le {f:Nat→Nat} {left:Nat} {r:Nat×Bool}:∀i,f i≤putR f left r i:=fun i=>by
 unfold putR;split
 ·rename_i e
  rw[e];split
  ·exact Nat.left_le_or
  ·exact Nat.le_refl _
 ·split
  ·rename_i e
   rw[e];exact Nat.left_le_or
  ·exact Nat.le_refl _
theorem comesL_lt {w:List Int} {rows:List (Nat→Nat)} (h:rows.length≤31):∀(r:List Sy) (k:Nat) (m:Bool),k<2^32→(comesL w rows r k m).1<2^32
 |[],k,m,hk=>hk
 |s::r,k,m,hk=>comesL_lt h r _ _ (stepF_lt h)
theorem comesF_lt {w:List Int} {rows:List (Nat→Nat)} {p:Pr} (h:rows.length≤31):(comesF w rows p).1<2^32:=comesL_lt h _ _ _ (by decide)
def eqR (a b:Nat→Nat):Bool:=(List.range 25).all fun i=>decide (a i=b i)
theorem eqs_in {f g:Nat→Nat}:∀l:List Nat,eqs (l.map fun _=>EK.int .u32) (l.map fun t=> .int .u32 (f t:Nat)) (l.map fun t=> .int .u32 (g t:Nat))=some (l.all fun i=>decide (f i=g i))
 |[]=>rfl
 |x::l=>by
  simp only[List.map_cons,eqs,eqs_in l,eq1,and_self,if_true,List.all_cons];have:((f x:Int)==(g x:Int))=decide (f x=g x):=by rw[int_beq];exact decide_eq_decide.2 Int.ofNat_inj
  rw[this]
theorem eqs_rw {f g:Nat→Nat}:eqs [.int .u32,.int .u32,.int .u32,.int .u32,.int .u32,.int .u32,.int .u32,.int .u32,.int .u32,.int .u32,.int .u32,.int .u32,.int .u32,.int .u32,.int .u32,.int .u32,.int .u32,.int .u32,.int .u32,.int .u32,.int .u32,.int .u32,.int .u32,.int .u32,.int .u32] (eRw f) (eRw g)=some (eqR f g):=eqs_in (List.range 25)
theorem eqR_iff {f g:Nat→Nat} (hf:RwOk f) (hg:RwOk g):eqR f g=true↔f=g:=by
 unfold eqR;rw[List.all_eq_true];constructor
 ·intro h;funext i;by_cases hi:i<25
  ·simpa using h i (List.mem_range.2 hi)
  ·rw[hf.2 i (by omega),hg.2 i (by omega)]
 ·intro h i _;rw[h];simp
set_option maxHeartbeats 16000000 in
theorem fz79 (g:Gr) (hg:g.Small) (hr:right g=true) (w:List Int) (hw:w.length≤30) (B:List (Nat→Nat)) (hB:B.length≤30) (hrw:RwIn B) (Snd:(Nat→Nat)→Prop) (hz:Snd fun _=>0)
  (hsn:∀f p,p∈g.prods→Snd f→Snd (putR f p.left.toNat (comesF w (f::B) p))):
  ∃f,PF pg Tq 79 [.agg (eGr g),.ro (w.map eIn),.ro (B.map eRw)] (.agg (eRw f))∧RwOk f∧Snd f∧∀p,p∈g.prods→putR f p.left.toNat (comesF w (f::B) p)=f:=by
 obtain⟨⟨hn1,hn2⟩,_,_,hp60,h5⟩:=right_in hr
 have hin:∀f,RwOk f→RwIn (f::B):=fun f hf j i=>by
  cases j with
  |zero=>exact hf.1 i
  |succ j=>exact hrw j i
 have fin:FH pg Tq 79 [.agg (eGr g),.ro (w.map eIn),.ro (B.map eRw)] h0 0 fun r h n=>∃f,r=.agg (eRw f)∧RwOk f∧Snd f∧∀p,p∈g.prods→putR f p.left.toNat (comesF w (f::B) p)=f:=by
  refine FH.of (N:=68) (rs:=#[.cell 6 165]) Tryz.func79 rfl rfl (of_decide_eq_true rfl) rfl (by decide) ?_;refine W.rseq (k:=2) rfl fun K hK=>?_;simp only[go_sem];refine hK _ _ _ ?_;clear hK K
  have tkB:(B.map eRw).take B.length=B.map eRw:=List.take_of_length_le (by simp);refine W.rseq (k:=5) rfl fun K hK=>?_;simp only[go_sem,eR_z,tkB,len_map (e:=eRw) (sz:=25) (fun x=>eR_len),eR_len,eR_scal,List.length_map,and_self,if_true,show(1+B.length)*100≤140737488355328 by omega,Nat.lt_irrefl,and_false,if_false];refine hK _ _ _ ?_
  first|clear hK K|clear hK|skip
  obtain⟨bR,hbR⟩:∃bR,bR=5:=⟨_,rfl⟩;obtain⟨T,hT⟩:∃T,T=1+B.length:=⟨_,rfl⟩;have z0R:¬0=bR:=by omega
  have z1R:¬1=bR:=by omega
  have hT0:(0:Int)<(T:Int):=by omega
  refine W.seqk fun K hK=>?_;refine W.rseq (k:=1) rfl fun K hK=>?_;simp only[go_sem];refine hK _ _ _ ?_;clear hK K
  have nx0:∀(t':Fr) (h':Heap) (n':Nat) (f:Nat→Nat),bR<n'→h' 1=some (.cells [eRw fun _=>0])→h' bR=some (.cells ((f::B).map eRw))→t' 6=.ptr 1 0 0→t' 7=.sl bR 0 T 25→RwOk f→Snd f→(∀p,p∈g.prods→putR f p.left.toNat (comesF w (f::B) p)=f)→K t' h' n':=by
   intro t' h' n' f e1 e2 e3 e4 e5 e6 e7 e8;refine hK _ _ _ ?_;clear hK K;refine W.rseq (k:=4) rfl fun K hK=>?_;simp only[go_sem,e5,e4,e3,e2,hT0,List.map_cons,List.getElem?_cons_zero,eR_len,eR_tk,eR_scal,z1R,eR_d,List.append_nil];refine hK _ _ _ ?_;clear hK K;refine W.ret ?_;simp only[go_sem,e4,eR_d,List.append_nil,eR_len,eR_tk]
   exact⟨f,rfl,e6,e7,e8⟩
  clear hK
  refine W.block (W.while (fun m t h n=>∃(f:Nat→Nat) (again:Bool),m=2*muR f+(if again=true then 1 else 0)∧RwOk f∧Snd f∧(again=false→∀p,p∈g.prods→putR f p.left.toNat (comesF w (f::B) p)=f)∧bR<n∧h 0=some (.cells [eGr g])∧h 1=some (.cells [eRw fun _=>0])∧h bR=some (.cells ((f::B).map eRw))∧(t 1=.ro (w.map eIn)∧t 3=.ptr 0 0 0∧t 6=.ptr 1 0 0∧t 7=.sl bR 0 T 25)∧t 8=.bool again) (2*muR (fun _=>0)+1)
   ⟨fun _=>0,true,by simp,⟨fun i=>(show 0<2^32 by decide),fun i _=>rfl⟩,hz,(fun e=>by cases e),by omega,by simp only[go_sem],by simp only[go_sem],by rw[hbR];simp only[go_sem];rfl,⟨rfl,rfl,rfl,by rw[hbR,hT];rfl⟩,rfl⟩ fun m t h n ⟨f,again,i1,i2,i3,i4,i5,i6,i7,i8,i9,i10⟩=>?_)
  have i9':=i9;obtain⟨a1,a3,a6,a7⟩:=i9';refine W.seq ?_;refine W.rseq (k:=1) rfl fun K hK=>?_;simp only[go_sem,i10];refine hK _ _ _ ?_;clear hK K
  cases ha:again
  ·refine W.condF (by simp only[go_sem,ha]) ?_;refine W.exit ?_;simp only[go_sem];exact nx0 _ _ _ f (by omega) i7 i8 a6 a7 i2 i3 (i4 ha)
  refine W.condT (by simp only[go_sem,ha]) ?_;refine W.skip ?_;simp only[go_sem];rw[ha,if_pos rfl] at i1;clear nx0 i4 i10;refine W.block ?_;have zR:∀j,¬bR=n+j:=fun j=>by omega
  have z0:∀j,¬0=n+j:=fun j=>by omega
  have z1:∀j,¬1=n+j:=fun j=>by omega
  refine W.rseq (k:=5) rfl fun K hK=>?_;simp only[go_sem,a7,i8,hT0,List.map_cons,List.getElem?_cons_zero,eR_len,eR_tk,eR_scal,eR_dz,List.append_nil,zR];refine hK _ _ _ ?_;clear hK K;refine W.seqk fun K hK=>?_;refine W.rseq (k:=4) rfl fun K hK=>?_;simp only[go_sem,a3,i6,z0];refine hK _ _ _ ?_;clear hK K
  have nx1:∀(t':Fr) (h':Heap) (n':Nat) (f':Nat→Nat),n+4<n'→h' 0=some (.cells [eGr g])→h' 1=some (.cells [eRw fun _=>0])→h' bR=some (.cells ((f'::B).map eRw))→h' (n+4)=some (.cells [eRw f])→(t' 1=.ro (w.map eIn)∧t' 3=.ptr 0 0 0∧t' 6=.ptr 1 0 0∧t' 7=.sl bR 0 T 25)→t' 9=.ptr (n+4) 0 0→RwOk f'→Snd f'→(∀i,f i≤f' i)→(f'=f→∀p,p∈g.prods→putR f p.left.toNat (comesF w (f::B) p)=f)→K t' h' n':=by
   intro t' h' n' f' e1 e2 e3 e4 e5 e6 e7 e8 e9 e10 e11;refine hK _ _ _ ?_;clear hK K;have e6':=e6;obtain⟨a1,a3,a6,a7⟩:=e6';have lR:∀j,(bR<n'+j)=True:=fun j=>eq_true (by omega)
   have l9:∀j,(n+4<n'+j)=True:=fun j=>eq_true (by omega)
   refine W.draw (k:=6) rfl ?_;simp only[go_sem,a7,e4,e5,e7,hT0,List.map_cons,List.getElem?_cons_zero,eR_len,eR_tk,eq_true e1,eq_true (show bR<n' by omega),eqs_rw];refine⟨by kernel_rfl, ?_⟩;by_cases hff:f'=f
   ·subst hff;refine⟨2*muR f',by omega,f',false,by simp,e8,e9,fun _=>e11 rfl,by omega,e2,e3,rfl,⟨a1,a3,a6⟩, ?_⟩;rw[(eqR_iff e8 e8).2 rfl];rfl
   ·have hlt:=muR_lt i2 e8 e10 (Ne.symm hff);refine⟨2*muR f'+1,by omega,f',true,by simp,e8,e9,(fun e=>by cases e),by omega,e2,e3,rfl,⟨a1,a3,a6⟩, ?_⟩
    have:eqR f' f=false:=by
     cases h:eqR f' f
     ·rfl
     ·exact absurd ((eqR_iff e8 i2).1 h) hff
    rw[this];rfl
  clear hK
  refine W.block (W.while (fun m t h1 n1=>∃(k:Nat) (f':Nat→Nat),m=g.prods.length - k∧k≤g.prods.length∧RwOk f'∧Snd f'∧(∀i,f i≤f' i)∧(f'=f→∀p,p∈g.prods.take k→putR f p.left.toNat (comesF w (f::B) p)=f)∧n+4<n1∧h1 0=some (.cells [eGr g])∧h1 1=some (.cells [eRw fun _=>0])∧h1 bR=some (.cells ((f'::B).map eRw))∧h1 (n+4)=some (.cells [eRw f])∧(t 1=.ro (w.map eIn)∧t 3=.ptr 0 0 0∧t 6=.ptr 1 0 0∧t 7=.sl bR 0 T 25)∧t 9=.ptr (n+4) 0 0∧(t 23=.ro (g.prods.map ePr)∧t 24=.int .i64 g.prods.length)∧t 25=.int .i64 k) g.prods.length
   ⟨0,f,by simp,by simp,i2,i3,fun i=>Nat.le_refl _,fun _ p hp=>(by cases hp),by omega,by simp only[go_sem,z0,i6],by simp only[go_sem,z1,i7],by simp only[go_sem,zR,i8],by simp only[go_sem],i9,rfl,⟨rfl,by simp only[go_sem]⟩,rfl⟩ fun m t h1 n1 ⟨k,f',k1,k2,k3,k4,k5,k6,k7,k8,k9,k10,k11,k12,k13,k14,k15⟩=>?_)
  clear a1 a3 a6 a7;have k12':=k12;obtain⟨a1,a3,a6,a7⟩:=k12';have k14':=k14;obtain⟨a23,a24⟩:=k14';refine W.rseq (k:=1) rfl fun K hK=>?_;simp only[go_sem,a24,k15];refine hK _ _ _ ?_;clear hK K;refine W.seq ?_
  refine W.cond rfl (fun hc=>?_) fun hc=>?_
  ·refine W.skip ?_;simp only[go_sem];have hk:k<g.prods.length:=by simp at hc;omega
   obtain⟨p,hp⟩:=get_some hk;have hm:p∈g.prods:=List.mem_of_getElem? hp;obtain⟨⟨hl0,hl1⟩,h8,hsy⟩:=h5 p hm;obtain⟨ℓ,hℓ⟩:∃ℓ:Nat,p.left=ℓ:=⟨p.left.toNat,by omega⟩;have hℓt:p.left.toNat=ℓ:=by omega
   have hℓ24:ℓ<24:=by omega
   have hrl:(f'::B).length≤31:=by simp;omega
   have h110:=fz143 p w hw (f'::B) hrl (hin f' k3) (by omega) fun s hs hn=>by
    have:=hsy s hs;rw[if_pos hn] at this;omega
   obtain⟨R,hR⟩:∃R,R=comesF w (f'::B) p:=⟨_,rfl⟩;have hRl:R.1<2^32:=by rw[hR];exact comesF_lt hrl
   have hput:RwOk (putR f' ℓ R):=putR_ok k3 hℓ24 hRl;rw[←hR] at h110;have zR1:∀j,¬bR=n1+j:=fun j=>by omega
   have z01:∀j,¬0=n1+j:=fun j=>by omega
   have z11:∀j,¬1=n1+j:=fun j=>by omega
   have z91:∀j,¬n+4=n1+j:=fun j=>by omega
   have z9R:¬n+4=bR:=by omega
   refine W.seqk fun K hK=>?_
   have nx2:∀(t':Fr) (h':Heap) (n':Nat),n+4<n'→h' 0=some (.cells [eGr g])→h' 1=some (.cells [eRw fun _=>0])→h' bR=some (.cells (((putR f' ℓ R)::B).map eRw))→h' (n+4)=some (.cells [eRw f])→(t' 1=.ro (w.map eIn)∧t' 3=.ptr 0 0 0∧t' 6=.ptr 1 0 0∧t' 7=.sl bR 0 T 25)→t' 9=.ptr (n+4) 0 0→(t' 23=.ro (g.prods.map ePr)∧t' 24=.int .i64 g.prods.length)→t' 25=.int .i64 k→K t' h' n':=by
    intro t' h' n' e1 e2 e3 e4 e5 e6 e7 e8 e9;refine hK _ _ _ ?_;clear hK K;refine W.region (k:=2) rfl ?_;simp only[go_sem,e9];refine⟨g.prods.length - (k+1),by omega,k+1,putR f' ℓ R,rfl,by omega,hput, ?_,fun i=>Nat.le_trans (k5 i) (putR_le i),fun he q hq=>?_,by omega,e2,e3,e4,e5,e6,e7,e8, ?_⟩
    ·have:=hsn f' p hm k4;rwa[hℓt,←hR] at this
    ·have hff:f'=f:=by
      funext i;have h1:=k5 i;have h2:=putR_le (f:=f') (left:=ℓ) (r:=R) i;rw[he] at h2;omega
     rw[List.take_add_one,hp] at hq;rcases List.mem_append.1 hq with hq|hq
     ·exact k6 hff q hq
     ·have hq:q=p:=by simpa using hq
      rw[hq,hℓt];rw[hff] at hR he;rw[←hR];exact he
    ·rw[wrap64 (by omega) (by omega)];rfl
   clear hK;refine W.block ?_;refine W.rseq (k:=4) rfl fun K hK=>?_;simp only[go_sem,a23,k15,hp];refine hK _ _ _ ?_;clear hK K;refine W.rseq (k:=9) rfl fun K hK=>?_;simp only[go_sem,a1,a7]
   refine VCall.frzq (as':=[.agg (ePr p),.ro (w.map eIn),.ro ((f'::B).map eRw)]) 5 ?_ h110 ?_
   ·have hfz:∀v w':Option AO,rf true 4 (upd (upd h1 (n1+3) v) (n1+3) w') (.sl bR 0 T 25)=some (.ro ((f'::B).map eRw)):=fun v w'=>
     SlL.frz (e:=eRw) (sz:=25) (lo:=0) (n:=n1) (l:=f'::B) (.inr ⟨bR,by rw[hT,List.length_cons,Nat.add_comm],by omega,by omega,by simp only[go_sem,zR1,k10]⟩) (d:=2) fun x _=>rfs_rw
    simp only[rfs,List.mapM_cons,hfz];rfl
   simp only[go_sem];refine hK _ _ _ ?_
   first|clear hK K|clear hK|skip
   have lR:∀j,(bR<n1+j)=True:=fun j=>eq_true (by omega)
   have hor:=or32 (k3.1 ℓ) hRl;refine W.dseq (k:=13) rfl fun K hK=>?_;simp only[go_sem,a7,lR,zR1,k10,hℓ,hT0,List.map_cons,List.getElem?_cons_zero,eR_len,eR_get (show ℓ<25 by omega),show(ℓ:Int)<24 by omega,hor,Nat.mul_one,show ℓ+1≤25 by omega,eR_over (show ℓ<25 by omega)];refine hK _ _ _ _ (by kernel_rfl) ?_;clear hK K;refine W.rseq (k:=1) rfl fun K hK=>?_;simp only[go_sem];refine hK _ _ _ ?_;clear hK K
   cases hR2:R.2
   ·refine W.condF (by simp only[go_sem,hR2]) ?_;refine W.skip ?_;simp only[go_sem]
    have hpe:putR f' ℓ R=fun x=>if x=ℓ then f' ℓ|||R.1 else f' x:=by
     funext i;unfold putR;rw[hR2];by_cases e:i=24
     ·subst e;rw[if_pos rfl,if_neg (show ¬(false=true) by decide),if_neg (show ¬24=ℓ by omega)]
     ·rw[if_neg e]
    refine nx2 _ _ _ (by omega) (by simp only[go_sem,z0R,z01,k8]) (by simp only[go_sem,z1R,z11,k9]) (by rw[hpe];simp only[go_sem];rfl) (by simp only[go_sem,z9R,z91,k11]) k12 k13 k14 k15
   ·refine W.condT (by simp only[go_sem,hR2]) ?_;have hor2:=or32 (k3.1 24) (Nat.pow_lt_pow_right (show 1<2 by decide) (show ℓ<32 by omega))
    have hpe:putR f' ℓ R=fun x=>if x=24 then f' 24|||2^ℓ else if x=ℓ then f' ℓ|||R.1 else f' x:=by
     funext i;unfold putR;rw[hR2,if_pos rfl]
    refine W.draw (k:=11) rfl ?_;simp only[go_sem,a7,lR,zR1,show ∀j,¬n1+j=bR from fun j=>by omega,z0R,hℓ,hT0,List.getElem?_cons_zero,eR_len,eR_get (show 24<25 by omega),shl32 (show ℓ<32 by omega),show ¬24=ℓ by omega,hor2,eR_over (show 24<25 by omega)];refine⟨by kernel_rfl, ?_⟩;refine nx2 _ _ _ (by omega) (by simp only[go_sem,z0R,z01,k8]) (by simp only[go_sem,z1R,z11,k9]) (by rw[hpe];simp only[go_sem];rfl) (by simp only[go_sem,z9R,z91,k11]) k12 k13 k14 k15
  ·refine W.exit ?_;simp only[go_sem];have hk:k=g.prods.length:=by simp at hc;omega
   rw[hk,List.take_length] at k6;exact nx1 _ _ _ f' (by omega) k8 k9 k10 k11 k12 k13 k3 k4 k5 k6
 obtain⟨r,h',n',hb,f,rfl,q⟩:=fin;exact⟨f,⟨_,h',n',hb,5,fun fr=>by simp[rf,rfs_rw]⟩,q⟩
end Go.Av
