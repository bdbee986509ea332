/-
  Texts Z1, Z2, Z3, Z4, Z5, Z6, Z7 of this work, one behind the other. Conditions: none.
-/
import Derived.Test.YtjpkjbobcicfoaaGreatDoorT7
import Derived.Test.YtjpkjbobcicfoaaGreatDoorT9
set_option linter.unusedSimpArgs false
set_option linter.unusedVariables false
namespace Go.Av
open Go.Proofs
set_option maxRecDepth 100000
abbrev Lt:=Sy×Nat
def eTd (x:Lt):List AV:=[.bool x.1.non,.int .i64 x.1.n,.int .u32 (x.2:Nat)]
def eLd (g:Gr) (w:List Int) (rows:List (Nat→Nat)) (kind:Int) (tv:AV) (a:Nat) (ov:AV):List AV:=
 [.int .i64 g.terms,.int .i64 g.nons,.int .i64 g.start,.ro (g.prods.map ePr),.ro (w.map eIn),.ro (rows.map eRw),.int .i64 kind,tv,.int .i64 (a:Nat),ov]
def lastG (w:List Int):List Lt→Nat
 |[]=>2^w.length
 |x::_=>x.2
def isB (w:List Int) (rows:List (Nat→Nat)) (kind:Int) (s:Sy) (good j:Nat):Bool:=
 (if s.non=true then !decide ((rowAt rows j s.n.toNat*2^j % 2^32) &&& good=0)||(decide (kind=2) && (rowAt rows j 24).testBit s.n.toNat)
   else decide (w[j]?=some s.n) && good.testBit (j+1))
 ||(decide (kind=2) && decide (j=w.length))
def aheadJ (w:List Int) (rows:List (Nat→Nat)) (kind:Int) (s:Sy) (good:Nat):Nat→Nat
 |0=>0
 |j+1=>if isB w rows kind s good j=true then aheadJ w rows kind s good j|||2^j else aheadJ w rows kind s good j
def aheadN (w:List Int) (rows:List (Nat→Nat)) (kind:Int) (s:Sy) (good:Nat):Nat:=aheadJ w rows kind s good rows.length
theorem aheadJ_lt {w:List Int} {rows:List (Nat→Nat)} {kind:Int} {s:Sy} {good:Nat}:∀j,j≤32→aheadJ w rows kind s good j<2^32
 |0,_=>by rw[aheadJ];decide
 |j+1,h=>by
  have:=aheadJ_lt (w:=w) (rows:=rows) (kind:=kind) (s:=s) (good:=good) j (by omega);rw[aheadJ];split
  ·exact Nat.or_lt_two_pow this (Nat.pow_lt_pow_right (by decide) (by omega))
  ·exact this
theorem and32g {a b:Nat} (ha:a<2^32) (hb:b<2^32):bitsOf .and .u32 (a:Int) (b:Int)=some ((a &&& b:Nat):Int):=by
 show some (IntKind.wrap .u32 ((BitVec.ofInt 32 (a:Int) &&& BitVec.ofInt 32 (b:Int)).toNat:Int))=_;rw[ofIntN,ofIntN,BitVec.toNat_and,BitVec.toNat_ofNat,BitVec.toNat_ofNat,Nat.mod_eq_of_lt ha,Nat.mod_eq_of_lt hb,wrapN (Nat.lt_of_le_of_lt Nat.and_le_left ha)]
theorem fz169 (g:Gr) (w:List Int) (rows:List (Nat→Nat)) (kind:Int) (tv:AV) (a:Nat) (ov:AV) (hw:w.length<32):PF pg Tq 169 [.rp (eLd g w rows kind tv a ov) 0] (.int .u32 (2^w.length:Nat)):=by
 refine Fi ?_;refine FH.of (N:=9) (rs:=#[.tmp 2]) Tryz.func169 rfl rfl (of_decide_eq_true rfl) rfl (by decide) ?_;refine W.rseq (k:=1) rfl fun K hK=>?_;simp only[go_sem];refine hK _ _ _ ?_;clear hK K;refine W.rseq (k:=7) rfl fun K hK=>?_;simp only[go_sem,eLd,List.length_map,shl32 hw];refine hK _ _ _ ?_;clear hK K;refine W.ret ?_;simp only[go_sem]
set_option maxHeartbeats 4000000 in
theorem fz301 (g:Gr) (w:List Int) (rows:List (Nat→Nat)) (kind:Int) (T:List Lt) (a:Nat) (ov:AV) (hw:w.length<32) (hT:T.length<2^40):PF pg Tq 301 [.rp (eLd g w rows kind (.ro (T.reverse.map eTd)) a ov) 0] (.int .u32 (lastG w T:Nat)):=by
 refine Fi ?_;refine FH.of (N:=24) (rs:=#[.tmp 2]) Tryz.func301 rfl rfl (of_decide_eq_true rfl) rfl (by decide) ?_;refine W.rseq (k:=1) rfl fun K hK=>?_;simp only[go_sem];refine hK _ _ _ ?_;clear hK K;refine W.seq ?_
 cases T with
 |nil=>
  refine W.rseq (k:=6) rfl fun K hK=>?_;simp only[go_sem,eLd,List.reverse_nil,List.map_nil,List.length_nil];refine hK _ _ _ ?_;clear hK K;refine W.condT (by simp only[go_sem]) ?_;refine W.rseq (k:=3) rfl fun K hK=>?_;simp only[go_sem];refine VCall.frz 6 (fz169 g w rows kind _ a ov hw) rfl ?_;try simp only[go_sem];refine hK _ _ _ ?_;clear hK K;refine W.ret ?_;simp only[go_sem];rfl
 |cons x T=>
  have hlen:((x::T).reverse.map eTd).length=T.length+1:=by simp
  have hget:((x::T).reverse.map eTd)[T.length]?=some (eTd x):=by rw[List.getElem?_map,List.getElem?_reverse (by simp)];simp
  have hw2:IntKind.wrap .i64 (((T.length+1:Nat):Int) - 1)=(T.length:Int):=by
   rw[List.length_cons] at hT;rw[wrap64 (by omega) (by omega)];omega
  refine W.rseq (k:=6) rfl fun K hK=>?_;simp only[go_sem,eLd,hlen,show decide (((T.length+1:Nat):Int)=0)=false from decide_eq_false (by omega)];refine hK _ _ _ ?_;clear hK K;refine W.condF (by simp only[go_sem]) ?_;refine W.skip ?_;simp only[go_sem];refine W.dseq (k:=14) rfl fun K hK=>?_;simp only[go_sem,eLd,hlen,hw2,hget,eTd];refine hK _ _ _ _ (by kernel_rfl) ?_;clear hK K;refine W.ret ?_;simp only[go_sem];rfl
set_option maxHeartbeats 4000000 in
theorem fz170 (g:Gr) (w:List Int) (rows:List (Nat→Nat)) (kind:Int) (tv:AV) (T:List Lt) (a:Nat) (ov:AV) (hw:w.length<32) (hT:T.length<2^40) (ha:a<32) (hl:lastG w T<2^32):PF pg Tq 170 [.rp (eLd g w rows kind tv a ov) 0,.ro (T.reverse.map eTd)] (.bool ((lastG w T).testBit a)):=by
 refine Fb ?_;refine FH.of (N:=26) (rs:=#[.tmp 4]) Tryz.func170 rfl rfl (of_decide_eq_true rfl) rfl (by decide) ?_;refine W.rseq (k:=1) rfl fun K hK=>?_;simp only[go_sem];refine hK _ _ _ ?_;clear hK K;refine W.rseq (k:=3) rfl fun K hK=>?_;simp only[go_sem];refine VCall.frz 6 (fz169 g w rows kind tv a ov hw) rfl ?_;try simp only[go_sem];refine hK _ _ _ ?_;clear hK K;refine W.seqk fun K hK=>?_
 have nx:∀(t':Fr) (h':Heap) (n':Nat),t' 0=.rp (eLd g w rows kind tv a ov) 0→t' 5=.int .u32 (lastG w T:Nat)→K t' h' n':=by
  intro t' h' n' e1 e2;refine hK _ _ _ ?_;clear hK K;have hw1:=shr32 (x:=lastG w T) (show a<32 by omega);have hw2:=and32 (x:=lastG w T / 2^a) (Nat.lt_of_le_of_lt (Nat.div_le_self _ _) hl);refine W.rseq (k:=9) rfl fun K hK=>?_;simp only[go_sem,e1,e2,eLd,hw1,hw2,bit_is1];refine hK _ _ _ ?_;clear hK K;refine W.ret ?_;simp only[go_sem]
 clear hK
 cases T with
 |nil=>
  refine W.rseq (k:=3) rfl fun K hK=>?_;simp only[go_sem,List.reverse_nil,List.map_nil,List.length_nil];refine hK _ _ _ ?_;clear hK K;refine W.condF (by simp only[go_sem]) ?_;refine W.skip ?_;simp only[go_sem]
  exact nx _ _ _ rfl rfl
 |cons x T=>
  have hlen:((x::T).reverse.map eTd).length=T.length+1:=by simp
  have hget:((x::T).reverse.map eTd)[T.length]?=some (eTd x):=by rw[List.getElem?_map,List.getElem?_reverse (by simp)];simp
  have hw2:IntKind.wrap .i64 (((T.length+1:Nat):Int) - 1)=(T.length:Int):=by
   rw[List.length_cons] at hT;rw[wrap64 (by omega) (by omega)];omega
  refine W.rseq (k:=3) rfl fun K hK=>?_;simp only[go_sem,hlen];refine hK _ _ _ ?_;clear hK K
  refine W.condT (by simp only[go_sem];exact congrArg (fun b=>some (AV.bool b)) (decide_eq_true (by omega))) ?_;refine W.region (k:=8) rfl ?_;simp only[go_sem,hlen,hw2,hget,eTd];exact nx _ _ _ rfl rfl
set_option maxHeartbeats 16000000 in
theorem fz168 (g:Gr) (w:List Int) (rows:List (Nat→Nat)) (kind:Int) (tv:AV) (a:Nat) (ov:AV) (s:Sy) (good:Nat) (hw:rows.length=w.length+1) (hr:rows.length≤30) (hrw:RwIn rows) (hg:good<2^32) (hs:s.non=true→0≤s.n∧s.n<24):
  PF pg Tq 168 [.rp (eLd g w rows kind tv a ov) 0,.agg (eSy s),.int .u32 (good:Nat)] (.int .u32 (aheadN w rows kind s good:Nat)):=by
 refine Fi ?_;refine FH.of (N:=99) (rs:=#[.tmp 6]) Tryz.func168 rfl rfl (of_decide_eq_true rfl) rfl (by decide) ?_;refine W.rseq (k:=2) rfl fun K hK=>?_;simp only[go_sem];refine hK _ _ _ ?_;clear hK K;refine W.rseq (k:=1) rfl fun K hK=>?_;simp only[go_sem];refine hK _ _ _ ?_;clear hK K;refine W.seq ?_;refine W.rseq (k:=6) rfl fun K hK=>?_;simp only[go_sem,eLd,List.length_map];refine hK _ _ _ ?_;clear hK K
 refine W.block (W.while (fun m t h n=>∃j:Nat,m=rows.length - j∧j≤rows.length∧0<n∧h 0=some (.cells [eSy s])∧(t 0=.rp (eLd g w rows kind tv a ov) 0∧t 2=.int .u32 (good:Nat)∧t 4=.ptr 0 0 0∧t 14=.ro (rows.map eRw)∧t 15=.int .i64 rows.length)∧t 7=.int .u32 (aheadJ w rows kind s good j:Nat)∧t 16=.int .i64 j) rows.length
  ⟨0,by simp,by simp,by omega,by simp only[go_sem],⟨rfl,rfl,rfl,rfl,rfl⟩,rfl,rfl⟩ fun m t h n ⟨j,i1,i2,i3,i4,i5,i6,i7⟩=>?_)
 have i5':=i5;obtain⟨a0,a2,a4,a14,a15⟩:=i5';refine W.rseq (k:=1) rfl fun K hK=>?_;simp only[go_sem,a15,i7];refine hK _ _ _ ?_;clear hK K;refine W.seq ?_
 refine W.cond rfl (fun hc=>?_) fun hc=>?_
 ·refine W.skip ?_;simp only[go_sem];have hj:j<rows.length:=by simp at hc;omega
  have hgr:=row_get hj;have z0:∀j,¬0=n+j:=fun j=>by omega
  refine W.seqk fun K hK=>?_
  have nx:∀(t':Fr) (h':Heap) (n':Nat),0<n'→h' 0=some (.cells [eSy s])→(t' 0=.rp (eLd g w rows kind tv a ov) 0∧t' 2=.int .u32 (good:Nat)∧t' 4=.ptr 0 0 0∧t' 14=.ro (rows.map eRw)∧t' 15=.int .i64 rows.length)→t' 7=.int .u32 (aheadJ w rows kind s good (j+1):Nat)→t' 16=.int .i64 j→K t' h' n':=by
   intro t' h' n' e1 e2 e3 e4 e5;refine hK _ _ _ ?_;clear hK K;refine W.region (k:=2) rfl ?_;simp only[go_sem,e5];refine⟨rows.length - (j+1),by omega,j+1,rfl,by omega,by omega,e2,e3,e4, ?_⟩;rw[wrap64 (by omega) (by omega)];rfl
  clear hK;refine W.block ?_;refine W.rseq (k:=6) rfl fun K hK=>?_;simp only[go_sem,a14,i7,hgr,eR_len,eR_scal,eR_tk,eR_dz,List.append_nil];refine hK _ _ _ ?_;clear hK K;refine W.rseq (k:=1) rfl fun K hK=>?_;simp only[go_sem];refine hK _ _ _ ?_;clear hK K;refine W.seqk fun K hK=>?_
  have nx2:∀(t':Fr) (h':Heap) (n':Nat) (b:Bool),0<n'→h' 0=some (.cells [eSy s])→(t' 0=.rp (eLd g w rows kind tv a ov) 0∧t' 2=.int .u32 (good:Nat)∧t' 4=.ptr 0 0 0∧t' 14=.ro (rows.map eRw)∧t' 15=.int .i64 rows.length)→t' 7=.int .u32 (aheadJ w rows kind s good j:Nat)→t' 16=.int .i64 j→t' 8=.int .i64 j→t' 10=.bool b→isB w rows kind s good j=(b||(decide (kind=2) && decide (j=w.length)))→K t' h' n':=by
   intro t' h' n' b e1 e2 e3 e4 e5 e6 e7 e8;refine hK _ _ _ ?_;clear hK K;have e3':=e3;obtain⟨c0,c2,c4,c14,c15⟩:=e3';refine W.rseq (k:=17) rfl fun K hK=>?_
   have cnd:∀(t2:Fr) (b':Bool),t2 92=.bool b'→isB w rows kind s good j=b'→(t2 0=.rp (eLd g w rows kind tv a ov) 0∧t2 2=.int .u32 (good:Nat)∧t2 4=.ptr 0 0 0∧t2 14=.ro (rows.map eRw)∧t2 15=.int .i64 rows.length)→t2 7=.int .u32 (aheadJ w rows kind s good j:Nat)→t2 16=.int .i64 j→t2 8=.int .i64 j→K t2 h' (n'+17):=by
    intro t2 b' q1 q2 q3 q4 q5 q6;refine hK _ _ _ ?_;clear hK K;cases b'
    ·refine W.condF (by simp only[go_sem,q1]) ?_;refine W.skip ?_;simp only[go_sem];exact nx _ _ _ (by omega) e2 q3 (by rw[aheadJ,q2,if_neg (by decide)];exact q4) q5
    ·refine W.condT (by simp only[go_sem,q1]) ?_;have hsh:=shl32 (t:=j) (by omega);have hor:=or32 (aheadJ_lt (w:=w) (rows:=rows) (kind:=kind) (s:=s) (good:=good) j (by omega)) (Nat.pow_lt_pow_right (show 1<2 by decide) (show j<32 by omega));refine W.region (k:=5) rfl ?_;simp only[go_sem,q4,q6,hsh,hor];exact nx _ _ _ (by omega) e2 q3 (by rw[aheadJ,q2,if_pos rfl];rfl) q5
   clear hK
   cases b with
   |true=>
    simp only[go_sem,e7];exact cnd _ true rfl (by rw[e8];rfl) e3 e4 e5 e6
   |false=>
    by_cases hk:kind=2
    ·by_cases hjw:j=w.length
     ·simp only[go_sem,e7,c0,eLd,decide_eq_true hk,e6,List.length_map,decide_eq_true (show(j:Int)=(w.length:Int) by omega)];exact cnd _ true rfl (by rw[e8,decide_eq_true hk,decide_eq_true hjw];rfl) e3 e4 e5 e6
     ·simp only[go_sem,e7,c0,eLd,decide_eq_true hk,e6,List.length_map,decide_eq_false (show ¬(j:Int)=(w.length:Int) by omega)];exact cnd _ false rfl (by rw[e8,decide_eq_true hk,decide_eq_false hjw];rfl) e3 e4 e5 e6
    ·simp only[go_sem,e7,c0,eLd,decide_eq_false hk];exact cnd _ false rfl (by rw[e8,decide_eq_false hk];rfl) e3 e4 e5 e6
  clear hK;refine W.block ?_;have hj31:j<31:=by omega
  cases hn:s.non
  ·refine W.rseq (k:=3) rfl fun K hK=>?_;simp only[go_sem,i4,a4,z0,hn];refine hK _ _ _ ?_;clear hK K;refine W.condF (by simp only[go_sem]) ?_
   have hwj:IntKind.wrap .i64 ((j:Int)+1)=((j+1:Nat):Int):=by rw[wrap64 (by omega) (by omega)];rfl
   have hw1:=shr32 (x:=good) (show j+1<32 by omega);have hw2:=and32 (x:=good / 2^(j+1)) (Nat.lt_of_le_of_lt (Nat.div_le_self _ _) hg);refine W.rseq (k:=8) rfl fun K hK=>?_;simp only[go_sem,a0,eLd,List.length_map];refine hK _ _ _ ?_;clear hK K
   by_cases hjw:j<w.length
   ·obtain⟨x,hx⟩:=get_some hjw;refine W.condT (by simp only[go_sem];exact congrArg (fun b=>some (AV.bool b)) (decide_eq_true (by omega))) ?_;refine W.draw (k:=19) rfl ?_;by_cases hxs:x=s.n
    ·simp only[go_sem,a0,eLd,hx,eIn,a4,i4,z0,hn,decide_eq_true hxs,a2,hwj,hw1,hw2,bit_is1,show(0:Int)≤((j+1:Nat):Int) by omega,if_true,Int.toNat_natCast];refine⟨by kernel_rfl, ?_⟩;refine nx2 _ _ _ (good.testBit (j+1)) (by omega) (by simp only[go_sem,z0,i4,hn]) i5 i6 i7 rfl rfl ?_;rw[isB,hn,if_neg (by decide),hx,decide_eq_true (congrArg some hxs),Bool.true_and]
    ·simp only[go_sem,a0,eLd,hx,eIn,a4,i4,z0,hn,decide_eq_false hxs];refine⟨by kernel_rfl, ?_⟩;refine nx2 _ _ _ false (by omega) (by simp only[go_sem,z0,i4,hn]) i5 i6 i7 rfl rfl ?_;rw[isB,hn,if_neg (by decide),hx,decide_eq_false (fun e=>hxs (by injection e)),Bool.false_and]
   ·refine W.condF (by simp only[go_sem];exact congrArg (fun b=>some (AV.bool b)) (decide_eq_false (by omega))) ?_;refine W.skip ?_;simp only[go_sem];refine nx2 _ _ _ false (by omega) (by simp only[go_sem,z0,i4,hn]) i5 i6 i7 rfl rfl ?_;rw[isB,hn,if_neg (by decide),List.getElem?_eq_none (by omega),decide_eq_false (fun e=>by cases e),Bool.false_and]
  ·refine W.rseq (k:=3) rfl fun K hK=>?_;simp only[go_sem,i4,a4,z0,hn];refine hK _ _ _ ?_;clear hK K;refine W.condT (by simp only[go_sem]) ?_
   obtain⟨hs1,hs2⟩:=hs hn;obtain⟨ν,hν⟩:∃ν:Nat,s.n=ν:=⟨s.n.toNat,by omega⟩;have hνt:s.n.toNat=ν:=by omega
   have hsl:=shlw (x:=rowAt rows j ν) (show j<32 by omega);have han:=and32g (a:=rowAt rows j ν*2^j % 2^32) (Nat.mod_lt _ (by decide)) hg;have hw3:=shr32 (x:=rowAt rows j 24) (show ν<32 by omega);have hw4:=and32 (x:=rowAt rows j 24 / 2^ν) (Nat.lt_of_le_of_lt (Nat.div_le_self _ _) (hrw j 24));refine W.region (k:=27) rfl ?_;by_cases hX:(rowAt rows j ν*2^j % 2^32) &&& good=0
   ·by_cases hk:kind=2
    ·simp only[go_sem,a4,i4,z0,hn,hν,eR_len,eR_get (show ν<25 by omega),eR_get (show 24<25 by omega),show(ν:Int)<24 by omega,Nat.mul_one,show ν+1≤25 by omega,hsl,a2,han,decide_eq_true (show(((rowAt rows j ν*2^j % 2^32) &&& good:Nat):Int)=0 by omega),a0,eLd,decide_eq_true hk,hw3,hw4,bit_is1];refine nx2 _ _ _ ((rowAt rows j 24).testBit ν) (by omega) (by simp only[go_sem,z0,i4,hn]) i5 i6 i7 rfl rfl ?_;rw[isB,hn,if_pos rfl,hνt,decide_eq_true hX,decide_eq_true hk];rfl
    ·simp only[go_sem,a4,i4,z0,hn,hν,eR_len,eR_get (show ν<25 by omega),show(ν:Int)<24 by omega,Nat.mul_one,show ν+1≤25 by omega,hsl,a2,han,decide_eq_true (show(((rowAt rows j ν*2^j % 2^32) &&& good:Nat):Int)=0 by omega),a0,eLd,decide_eq_false hk];refine nx2 _ _ _ false (by omega) (by simp only[go_sem,z0,i4,hn]) i5 i6 i7 rfl rfl ?_;rw[isB,hn,if_pos rfl,hνt,decide_eq_true hX,decide_eq_false hk];rfl
   ·simp only[go_sem,a4,i4,z0,hn,hν,eR_len,eR_get (show ν<25 by omega),show(ν:Int)<24 by omega,Nat.mul_one,show ν+1≤25 by omega,hsl,a2,han,decide_eq_false (show ¬(((rowAt rows j ν*2^j % 2^32) &&& good:Nat):Int)=0 by omega)];refine nx2 _ _ _ true (by omega) (by simp only[go_sem,z0,i4,hn]) i5 i6 i7 rfl rfl ?_;rw[isB,hn,if_pos rfl,hνt,decide_eq_false hX];rfl
 ·refine W.exit ?_;simp only[go_sem];have hj:j=rows.length:=by simp at hc;omega
  rw[hj] at i6;refine W.rseq (k:=2) rfl fun K hK=>?_;simp only[go_sem,i6];refine hK _ _ _ ?_;clear hK K;refine W.ret ?_;simp only[go_sem];rfl
end Go.Av
namespace Go.Av
open Go.Proofs
set_option maxRecDepth 100000
def prodsJ (g:Gr) (x:Int):Nat→List Int
 |0=>[]
 |j+1=>if g.prods[j]?.map (·.left)=some x then prodsJ g x j++[(j:Int)] else prodsJ g x j
def prodsL (g:Gr) (x:Int):List Int:=prodsJ g x g.prods.length
theorem prodsJ_mem {g:Gr} {x c:Int}:∀{j:Nat},c∈prodsJ g x j↔∃i:Nat,i<j∧c=i∧∃p,g.prods[i]?=some p∧p.left=x
 |0=>by simp[prodsJ]
 |j+1=>by
  have ih:=prodsJ_mem (g:=g) (x:=x) (c:=c) (j:=j);rw[prodsJ];by_cases h:g.prods[j]?.map (·.left)=some x
  ·rw[if_pos h,List.mem_append,ih,List.mem_singleton];obtain⟨p,h1,h2⟩:=Option.map_eq_some_iff.1 h;constructor
   ·rintro (⟨i,q1,q2,q3⟩|rfl)
    ·exact⟨i,by omega,q2,q3⟩
    ·exact⟨j,by omega,rfl,p,h1,h2⟩
   ·rintro ⟨i,q1,q2,q3⟩
    by_cases e:i=j
    ·right;rw[q2,e]
    ·exact .inl ⟨i,by omega,q2,q3⟩
  ·rw[if_neg h,ih];constructor
   ·rintro ⟨i,q1,q2,q3⟩
    exact⟨i,by omega,q2,q3⟩
   ·rintro ⟨i,q1,q2,p,q3,q4⟩
    have:i≠j:=fun e=>h (by rw[←e,q3,←q4];rfl)
    exact⟨i,by omega,q2,p,q3,q4⟩
theorem prodsJ_len {g:Gr} {x:Int}:∀j,(prodsJ g x j).length≤j
 |0=>by simp[prodsJ]
 |j+1=>by
  have:=prodsJ_len (g:=g) (x:=x) j;rw[prodsJ];split
  ·rw[List.length_append,List.length_singleton];omega
  ·omega
set_option maxHeartbeats 8000000 in
theorem fz144 (g:Gr) (x:Int) (hp:g.prods.length<2^40):FH pg Tq 144 [.agg (eGr g),.int .i64 x] h0 0 fun r h n=>SlL eIn 1 h 0 n r (prodsL g x):=by
 refine FH.of (N:=26) (rs:=#[.tmp 4]) Tryz.func144 rfl rfl (of_decide_eq_true rfl) rfl (by decide) ?_;refine W.rseq (k:=2) rfl fun K hK=>?_;simp only[go_sem];refine hK _ _ _ ?_;clear hK K;refine W.rseq (k:=1) rfl fun K hK=>?_;simp only[go_sem];refine hK _ _ _ ?_;clear hK K;refine W.seqk fun K hK=>?_;refine W.rseq (k:=4) rfl fun K hK=>?_;simp only[go_sem];refine hK _ _ _ ?_;clear hK K
 have nx0:∀(t':Fr) (h':Heap) (n':Nat),SlL eIn 1 h' 1 n' (t' 5) (prodsL g x)→K t' h' n':=by
  intro t' h' n' e1;refine hK _ _ _ ?_;clear hK K;refine W.rseq (k:=2) rfl fun K hK=>?_;simp only[go_sem];refine hK _ _ _ ?_;clear hK K;refine W.ret ?_;simp only[go_sem]
  exact e1.next rfl (fun x hx hx'=>rfl) (by omega) (by omega)
 clear hK
 refine W.block (W.while (fun m t h n=>∃j:Nat,m=g.prods.length - j∧j≤g.prods.length∧0<n∧h 0=some (.cells [eGr g])∧SlL eIn 1 h 1 n (t 5) (prodsJ g x j)∧(t 1=.int .i64 x∧t 9=.ro (g.prods.map ePr)∧t 10=.int .i64 g.prods.length)∧t 11=.int .i64 j) g.prods.length
  ⟨0,by simp,by omega,by omega,by simp only[go_sem],.inl ⟨rfl,rfl⟩,⟨rfl,rfl,by simp only[go_sem]⟩,rfl⟩ fun m t h n ⟨j,i1,i2,i3,i4,i5,i6,i7⟩=>?_)
 have i6':=i6;obtain⟨a1,a9,a10⟩:=i6';refine W.rseq (k:=1) rfl fun K hK=>?_;simp only[go_sem,a10,i7];refine hK _ _ _ ?_;clear hK K;refine W.seq ?_
 refine W.cond rfl (fun hc=>?_) fun hc=>?_
 ·refine W.skip ?_;simp only[go_sem];have hj:j<g.prods.length:=by simp at hc;omega
  obtain⟨p,hpj⟩:=get_some hj;have z0:∀j,¬0=n+j:=fun j=>by omega
  refine W.seqk fun K hK=>?_
  have nx:∀(t':Fr) (h':Heap) (n':Nat),0<n'→h' 0=some (.cells [eGr g])→SlL eIn 1 h' 1 n' (t' 5) (prodsJ g x (j+1))→(t' 1=.int .i64 x∧t' 9=.ro (g.prods.map ePr)∧t' 10=.int .i64 g.prods.length)→t' 11=.int .i64 j→K t' h' n':=by
   intro t' h' n' e1 e2 e3 e4 e5;refine hK _ _ _ ?_;clear hK K;refine W.region (k:=2) rfl ?_;simp only[go_sem,e5];refine⟨g.prods.length - (j+1),by omega,j+1,rfl,by omega,by omega,e2,e3.next rfl (fun x _ _=>rfl) (by omega) (Nat.le_refl _),e4, ?_⟩;rw[wrap64 (by omega) (by omega)];rfl
  clear hK;refine W.block ?_;refine W.rseq (k:=6) rfl fun K hK=>?_;simp only[go_sem,a9,i7,hpj];refine hK _ _ _ ?_;clear hK K;refine W.rseq (k:=4) rfl fun K hK=>?_;simp only[go_sem,a1];refine hK _ _ _ ?_;clear hK K
  by_cases hl:p.left=x
  ·have hof:prodsJ g x (j+1)=prodsJ g x j++[(j:Int)]:=by rw[prodsJ,if_pos (by rw[hpj,←hl];rfl)]
   rw[hof] at nx;refine W.condT (by simp only[go_sem,decide_eq_true hl]) ?_;refine W.region (k:=5) rfl ?_;have hlen:=prodsJ_len (g:=g) (x:=x) j;rcases i5 with ⟨w0,w5⟩|⟨b,w5,w1,w2,w3⟩
   ·simp only[go_sem,w5,show(n≤n+10)=True from eq_true (by omega),if_true,Nat.one_mul];refine nx _ _ _ (by omega) (by simp only[go_sem,z0,i4]) (.inr ⟨n+14,by rw[w0];rfl,by omega,by omega,by rw[w0];simp only[go_sem];rfl⟩) i6 i7
   ·have zb:∀j,¬b=n+j:=fun j=>by omega
    have tkL:((prodsJ g x j).map eIn).take (prodsJ g x j).length=(prodsJ g x j).map eIn:=List.take_of_length_le (by simp);simp only[go_sem,w5,w3,zb,tkL,List.length_map,and_false,if_false,if_true,show((prodsJ g x j).length+1)*8≤140737488355328 by omega,show(n+11≤b)=False from eq_false (by omega)];refine nx _ _ _ (by omega) (by simp only[go_sem,z0,i4,show ¬0=b by omega]) (.inr ⟨n+14,by rw[List.length_append];rfl,by omega,by omega,by simp only[go_sem];rw[List.map_append];rfl⟩) i6 i7
  ·have hof:prodsJ g x (j+1)=prodsJ g x j:=by rw[prodsJ,if_neg (by rw[hpj];intro e;exact hl (by injection e))]
   rw[hof] at nx;refine W.condF (by simp only[go_sem,decide_eq_false hl]) ?_;refine W.skip ?_;simp only[go_sem];exact nx _ _ _ (by omega) (by simp only[go_sem,z0,i4]) (i5.next rfl (fun x hx hx'=>by simp only[go_sem,show ∀j,¬x=n+j from fun j=>by omega]) (by omega) (Nat.le_refl _)) i6 i7
 ·refine W.exit ?_;simp only[go_sem];have hj:j=g.prods.length:=by simp at hc;omega
  rw[hj] at i5;exact nx0 _ _ _ (i5.next rfl (fun x _ _=>rfl) (by omega) (Nat.le_refl _))
theorem fz144' (g:Gr) (x:Int) (hp:g.prods.length<2^40) (hne:prodsL g x≠[]):PT pg Tq 144 [.agg (eGr g),.int .i64 x] 1 ((prodsL g x).map eIn):=by
 obtain⟨r,h',n',hb,ho⟩:=fz144 g x hp;rcases ho with ⟨e,_⟩|⟨b,rfl,h1,h2,h3⟩
 ·exact absurd e hne
 ·exact⟨_,h',n',hb,b,by rw[List.length_map],_,h3,rfl,5,fun fr=>rfe_map fun x _=>by simp[rfs,rf,eIn]⟩
def Trn (l L:List Int) (i:Nat):Prop:=L.length=l.length∧∀x,x<l.length→L[x]?=if x<i∨l.length - 1 - i<x then l[l.length - 1 - x]? else l[x]?
theorem trn_end {l L:List Int} {i:Nat} (h:Trn l L i) (hi:l.length - 1≤2*i):L=l.reverse:=by
 refine List.ext_getElem? fun x=>?_
 by_cases hx:x<l.length
 ·rw[h.2 x hx,List.getElem?_reverse hx];split
  ·rfl
  ·rename_i hn
   congr 1
   omega
 ·rw[List.getElem?_eq_none (by rw[h.1];omega),List.getElem?_eq_none (by rw[List.length_reverse];omega)]
theorem trn_step {l L:List Int} {i:Nat} (h:Trn l L i) (hi:2*i<l.length - 1) {a b:Int} (ha:L[i]?=some a) (hb:L[l.length - 1 - i]?=some b):Trn l ((L.set i b).set (l.length - 1 - i) a) (i+1):=by
 have h1:=h.2 i (by omega);rw[if_neg (by omega),ha] at h1;have h2:=h.2 (l.length - 1 - i) (by omega);rw[if_neg (by omega),hb] at h2;refine⟨by simp[h.1],fun x hx=>?_⟩;have h3:=h.2 x hx;have hxl:x<L.length:=by rw[h.1];exact hx
 rw[List.getElem?_set,List.getElem?_set,List.length_set];by_cases e1:l.length - 1 - i=x
 ·rw[if_pos e1,if_pos (by omega),if_pos (by omega),h1]
  congr 1
  omega
 ·rw[if_neg e1];by_cases e2:i=x
  ·rw[if_pos e2,if_pos (by omega),if_pos (by omega),h2]
   congr 1
   omega
  ·rw[if_neg e2,h3];by_cases e3:x<i∨l.length - 1 - i<x
   ·rw[if_pos e3,if_pos (by omega)]
   ·rw[if_neg e3,if_neg (by omega)]
set_option maxHeartbeats 8000000 in
theorem fz266 (l:List Int) (b:Nat) (h:Heap) (n:Nat) (hb:b<n) (hh:h b=some (.cells (l.map eIn))) (hl:l.length<2^40):FH pg Tq 266 [.sl b 0 l.length 1] h n fun _ h' n'=>n≤n'∧h' b=some (.cells (l.reverse.map eIn))∧∀x,x<n→x≠b→h' x=h x:=by
 refine FH.of (N:=28) (rs:=#[]) Tryz.func266 rfl rfl (of_decide_eq_true rfl) rfl (by decide) ?_;have hw0:IntKind.wrap .i64 ((l.length:Int) - 1)=(l.length:Int) - 1:=wrap64 (by omega) (by omega);refine W.rseq (k:=5) rfl fun K hK=>?_;simp only[go_sem,hw0];refine hK _ _ _ ?_;clear hK K
 refine W.block (W.while (fun m t h1 n1=>∃(i:Nat) (L:List Int),m=l.length - i∧2*i≤l.length+1∧Trn l L i∧n≤n1∧h1 b=some (.cells (L.map eIn))∧(∀x,x<n→x≠b→h1 x=h x)∧t 0=.sl b 0 l.length 1∧t 2=.int .i64 i∧t 3=.int .i64 ((l.length:Int) - 1 - i)) l.length
  ⟨0,l,by simp,by omega,⟨rfl,fun x hx=>by rw[if_neg (by omega)]⟩,by omega,hh,fun x _ _=>rfl,rfl,rfl,by simp only[go_sem];congr 1;omega⟩ fun m t h1 n1 ⟨i,L,i1,i2,i3,i4,i5,i6,i7,i8,i9⟩=>?_)
 refine W.seq ?_;refine W.rseq (k:=3) rfl fun K hK=>?_;simp only[go_sem,i8,i9];refine hK _ _ _ ?_;clear hK K
 refine W.cond rfl (fun hc=>?_) fun hc=>?_
 ·refine W.skip ?_;simp only[go_sem];have hi:2*i<l.length - 1:=by simp at hc;omega
  obtain⟨j,hj⟩:∃j:Nat,j=l.length - 1 - i:=⟨_,rfl⟩;have hji:(l.length:Int) - 1 - i=(j:Int):=by omega
  obtain⟨x,hx⟩:=get_some (show i<L.length by rw[i3.1];omega);obtain⟨y,hy⟩:=get_some (show j<L.length by rw[i3.1];omega);have hst:=trn_step i3 hi hx (by rw[←hj];exact hy);rw[←hj] at hst;have hmx:(L.map eIn)[i]?=some (eIn x):=by rw[List.getElem?_map,hx];rfl
  have hmy:(L.map eIn)[j]?=some (eIn y):=by rw[List.getElem?_map,hy];rfl
  have hmy2:((L.map eIn).set i [AV.int .i64 y])[j]?=some [AV.int .i64 y]:=by rw[List.getElem?_set,if_neg (by omega)];exact hmy
  have zb:∀k,¬b=n1+k:=fun k=>by omega
  have lb:∀k,(b<n1+k)=True:=fun k=>eq_true (by omega)
  rw[hji] at i9;refine W.seqk fun K hK=>?_
  have nx:∀(t':Fr) (h':Heap) (n':Nat),n≤n'→h' b=some (.cells (((L.set i y).set j x).map eIn))→(∀x,x<n→x≠b→h' x=h x)→t' 0=.sl b 0 l.length 1→t' 2=.int .i64 i→t' 3=.int .i64 j→K t' h' n':=by
   intro t' h' n' e1 e2 e3 e4 e5 e6;refine hK _ _ _ ?_;clear hK K;refine W.region (k:=6) rfl ?_;simp only[go_sem,e5,e6];refine⟨l.length - (i+1),by omega,i+1,(L.set i y).set j x,rfl,by omega,hst,by omega,e2,e3,e4, ?_, ?_⟩
   ·rw[wrap64 (by omega) (by omega)];rfl
   ·rw[wrap64 (by omega) (by omega)];congr 1;omega
  clear hK;refine W.block ?_;refine W.draw (k:=16) rfl ?_;simp only[go_sem,i7,i8,i9,i5,hmx,hmy,hmy2,zb,lb,eIn,show(i:Int)<(l.length:Int) by omega,show(j:Int)<(l.length:Int) by omega];refine⟨by kernel_rfl, ?_⟩;refine nx _ _ _ (by omega) ?_ (fun x q1 q2=>by simp only[go_sem,q2];exact i6 x q1 q2) i7 i8 i9;simp only[go_sem,List.map_set,eIn]
 ·refine W.exit ?_;simp only[go_sem];have hi:l.length - 1≤2*i:=by simp at hc;omega
  rw[trn_end i3 hi] at i5;exact⟨by omega,i5,i6⟩
def SlM {α:Type} (e:α→List AV) (sz:Nat) (h:Heap) (lo n:Nat) (v:AV) (l:List α):Prop:=(l=[]∧v=.emn)∨SlL e sz h lo n v l
theorem SlM.next {α:Type} {e:α→List AV} {sz:Nat} {h h':Heap} {lo lo' n n':Nat} {v v':AV} {l:List α} (c:SlM e sz h lo n v l) (hv:v'=v) (hh:∀x,lo≤x→x<n→h' x=h x) (hn:n≤n') (hl:lo'≤lo):SlM e sz h' lo' n' v' l:=
 c.imp (fun q=>⟨q.1,hv.trans q.2⟩) fun c=>c.next hv hh hn hl
theorem SlM.frz {α:Type} {e:α→List AV} {sz:Nat} {fr:Bool} {h:Heap} {lo n d:Nat} {v:AV} {l:List α} (c:SlM e sz h lo n v l) (he:∀x∈l,rfs fr d h (e x)=some (e x)):rf fr (d+2) h v=some (.ro (l.map e)):=by
 rcases c with ⟨rfl,rfl⟩|c
 ·simp[rf]
 ·exact c.frz he
set_option maxHeartbeats 8000000 in
theorem fz300 (l:List Lt) (b:Nat) (es:List (List AV)) (h:Heap) (n:Nat) (hb:b<n) (hh:h b=some (.cells es)) (hle:l.length≤es.length) (htk:es.take l.length=l.map eTd) (hl:l.length<2^40):FH pg Tq 300 [.sl b 0 l.length 3] h n fun r h' n'=>n≤n'∧(∀x,x<n→h' x=h x)∧SlM eTd 3 h' n n' r l:=by
 refine FH.of (N:=8) (rs:=#[.tmp 2]) Tryz.func300 rfl rfl (of_decide_eq_true rfl) rfl (by decide) ?_;refine W.rseq (k:=1) rfl fun K hK=>?_;simp only[go_sem];refine hK _ _ _ ?_;clear hK K;refine W.seq ?_;refine W.rseq (k:=2) rfl fun K hK=>?_;simp only[go_sem];refine hK _ _ _ ?_;clear hK K;refine W.condF (by simp only[go_sem]) ?_;refine W.skip ?_;simp only[go_sem]
 have hlt:(b<n+3)=True:=eq_true (by omega);refine W.rseq (k:=4) rfl fun K hK=>?_
 cases l with
 |nil=>
  simp only[go_sem,hh,hle,htk,hlt,Nat.zero_le,if_true,List.isEmpty_nil,List.length_nil,List.take_zero];refine hK _ _ _ ?_
  first|clear hK K|clear hK|skip
  refine W.ret ?_;simp only[go_sem];exact⟨by omega,fun _ _=>trivial,.inl ⟨rfl,rfl⟩⟩
 |cons x l=>
  rw[List.length_cons] at hle hl htk;have hie:((x::l).map eTd).isEmpty=false:=rfl;simp only[go_sem,hh,hle,htk,hlt,if_true,hie,Bool.false_eq_true,if_false,List.length_map,List.length_cons,show(l.length+1)*24≤140737488355328 by omega];refine hK _ _ _ ?_
  first|clear hK K|clear hK|skip
  refine W.ret ?_;simp only[go_sem];exact⟨by omega,fun y hy=>by simp only[go_sem,show ∀j,¬y=n+j from fun j=>by omega],.inr (.inr ⟨n+5,rfl,by omega,by omega,by simp only[go_sem]⟩)⟩
end Go.Av
namespace Go.Av
open Go.Proofs
set_option maxRecDepth 100000
def layL (w:List Int) (rows:List (Nat→Nat)) (kind:Int) (T:List Lt):List Sy→List Lt
 |[]=>T
 |s::r=>let L:=layL w rows kind T r;(s,aheadN w rows kind s (lastG w L))::L
theorem lay_cons {w:List Int} {rows:List (Nat→Nat)} {kind:Int} {T:List Lt} {s:Sy} {r:List Sy}:layL w rows kind T (s::r)=(s,aheadN w rows kind s (lastG w (layL w rows kind T r)))::layL w rows kind T r:=rfl
theorem lay_len {w:List Int} {rows:List (Nat→Nat)} {kind:Int} {T:List Lt}:∀r:List Sy,(layL w rows kind T r).length=r.length+T.length
 |[]=>by rw[layL,List.length_nil,Nat.zero_add]
 |s::r=>by rw[lay_cons,List.length_cons,lay_len r,List.length_cons];omega
def GdT (T:List Lt):Prop:=∀x∈T,x.2<2^32∧(x.1.non=true→0≤x.1.n∧x.1.n<24)
theorem aheadN_lt {w:List Int} {rows:List (Nat→Nat)} {kind:Int} {s:Sy} {good:Nat} (h:rows.length≤30):aheadN w rows kind s good<2^32:=aheadJ_lt _ (by omega)
theorem GdT.last {w:List Int} {T:List Lt} (h:GdT T) (hw:w.length<32):lastG w T<2^32:=by
 cases T with
 |nil=>exact Nat.pow_lt_pow_right (by decide) hw
 |cons x T=>exact(h x (by simp)).1
theorem GdT.lay {w:List Int} {rows:List (Nat→Nat)} {kind:Int} {T:List Lt} (h:GdT T) (hr:rows.length≤30):∀r:List Sy,(∀s∈r,s.non=true→0≤s.n∧s.n<24)→GdT (layL w rows kind T r)
 |[],_=>h
 |s::r,hs=>fun x hx=>by
  rw[lay_cons] at hx;rcases List.mem_cons.1 hx with rfl|hx
  ·exact⟨aheadN_lt hr,hs s (by simp)⟩
  ·exact GdT.lay h hr r (fun y hy=>hs y (by simp[hy])) x hx
structure LM (bR:Nat) (g:Gr) (w:List Int) (rows:List (Nat→Nat)) (kind:Int) (h:Heap) (n:Nat) (T:List Lt) (a:Nat) (out:List Int) (tv ov:AV):Prop where
 lt:bR<n
 root:h bR=some (.cells [eLd g w rows kind tv a ov])
 todo:(T=[]∧(tv=.nils∨tv=.emn))∨∃b es,tv=.sl b 0 T.length 3∧bR<b∧b<n∧h b=some (.cells es)∧T.length≤es.length∧es.take T.length=T.reverse.map eTd
 outs:SlL eIn 1 h (bR+1) n ov out
 apart:∀b k b' k',tv=.sl b 0 k 3→ov=.sl b' 0 k' 1→b≠b'
theorem LM.next {bR:Nat} {g:Gr} {w:List Int} {rows:List (Nat→Nat)} {kind:Int} {h h':Heap} {n n':Nat} {T:List Lt} {a:Nat} {out:List Int} {tv ov:AV} (m:LM bR g w rows kind h n T a out tv ov) (hh:∀x,x<n→h' x=h x) (hn:n≤n'):LM bR g w rows kind h' n' T a out tv ov:=by
 obtain⟨m1,m2,m3,m4,m5⟩:=m;refine⟨by omega,(hh _ m1).trans m2, ?_,m4.next rfl (fun x _ hx=>hh x hx) hn (Nat.le_refl _),m5⟩;rcases m3 with m3|⟨b,es,k1,k2,k3,k4,k5,k6⟩
 ·exact .inl m3
 ·exact .inr ⟨b,es,k1,k2,by omega,(hh b k3).trans k4,k5,k6⟩
theorem LM.frz {bR:Nat} {g:Gr} {w:List Int} {rows:List (Nat→Nat)} {kind:Int} {h:Heap} {n:Nat} {T:List Lt} {a:Nat} {out:List Int} {tv ov:AV} (m:LM bR g w rows kind h n T a out tv ov):
  rf true 6 h (.ptr bR 0 0)=some (.rp (eLd g w rows kind (.ro (T.reverse.map eTd)) a (.ro (out.map eIn))) 0):=by
 obtain⟨m1,m2,m3,m4,m5⟩:=m;have e2:rf true 4 h ov=some (.ro (out.map eIn)):=m4.frz (d:=2) fun x _=>by simp[rfs,rf,eIn]
 have e1:rf true 4 h tv=some (.ro (T.reverse.map eTd)):=by
  rcases m3 with ⟨rfl,m3⟩|⟨b,es,rfl,k2,k3,k4,k5,k6⟩
  ·rcases m3 with rfl|rfl<;>rfl
  ·have he:rfe true 3 h (T.reverse.map eTd)=some (T.reverse.map eTd):=rfe_map fun x _=>by simp[rfs,rf,eTd]
   unfold rf;simp only[k4,List.drop_zero,k6,he,Nat.zero_add,if_pos k5]
 have e3:rfs true 5 h (eLd g w rows kind tv a ov)=some (eLd g w rows kind (.ro (T.reverse.map eTd)) a (.ro (out.map eIn))):=by
  simp only[rfs,eLd,List.mapM_cons,e1,e2];rfl
 unfold rf;simp only[m2,List.getElem?_cons_zero,e3]
theorem fz300' (l:List Lt) (k b:Nat) (es:List (List AV)) (h:Heap) (n:Nat) (hk:l.length=k) (hb:b<n) (hh:h b=some (.cells es)) (hle:k≤es.length) (htk:es.take k=l.map eTd) (hl:k<2^40):FH pg Tq 300 [.sl b 0 k 3] h n fun r h' n'=>n≤n'∧(∀x,x<n→h' x=h x)∧SlM eTd 3 h' n n' r l:=by
 subst hk;exact fz300 l b es h n hb hh hle htk hl
set_option maxHeartbeats 16000000 in
theorem fz267 (bR:Nat) (g:Gr) (w:List Int) (rows:List (Nat→Nat)) (kind:Int) (h:Heap) (n:Nat) (T:List Lt) (a:Nat) (out:List Int) (tv ov:AV) (m:LM bR g w rows kind h n T a out tv ov) (hsl:tv≠.nils∧tv≠.emn) (p:Pr)
  (hw:rows.length=w.length+1) (hr:rows.length≤30) (hrw:RwIn rows) (hT:T.length<2^30) (hgd:GdT T) (hp:p.right.length<2^20) (hs:∀s∈p.right,s.non=true→0≤s.n∧s.n<24):
  FH pg Tq 267 [.ptr bR 0 0,.agg (ePr p)] h n fun r h' n'=>n≤n'∧(∀x,x<n→h' x=h x)∧SlM eTd 3 h' n n' r (layL w rows kind T p.right).reverse:=by
 have m':=m;obtain⟨m1,m2,m3,m4,m5⟩:=m';rcases m3 with ⟨_,e⟩|⟨b,es,rfl,k2,k3,k4,k5,k6⟩
 ·exact e.elim (fun e=>absurd e hsl.1) fun e=>absurd e hsl.2
 have zR:∀j,¬bR=n+j:=fun j=>by omega
 have zR':¬bR=n:=by omega
 have zb:∀j,¬b=n+j:=fun j=>by omega
 have zb':¬b=n:=by omega
 refine FH.of (N:=42) (rs:=#[.tmp 4]) Tryz.func267 rfl rfl (of_decide_eq_true rfl) rfl (by decide) ?_;refine W.rseq (k:=2) rfl fun K hK=>?_;simp only[go_sem];refine hK _ _ _ ?_;clear hK K;refine W.rseq (k:=6) rfl fun K hK=>?_;simp only[go_sem,m2,eLd,zR,zR']
 refine VCall.heap (fz300' T.reverse T.length b es _ _ (by simp) (by omega) (by simp only[go_sem,zb,zb',k4]) k5 k6 (by omega)) fun r1 h1 n1 ⟨c1,c2,c3⟩=>?_
 simp only[go_sem];refine hK _ _ _ ?_
 first|clear hK K|clear hK|skip
 have hf1:∀x,x<n→h1 x=h x:=fun x hx=>by rw[c2 x (by omega)];simp only[go_sem,show ∀j,¬x=n+j from fun j=>by omega,show ¬x=n by omega]
 have hp1:h1 n=some (.cells [ePr p]):=by rw[c2 n (by omega)];simp only[go_sem]
 have M1:=m.next hf1 (show n≤n1 by omega);refine W.rseq (k:=3) rfl fun K hK=>?_;simp only[go_sem]
 refine VCall.frzq (as':=[.rp (eLd g w rows kind (.ro (T.reverse.map eTd)) a (.ro (out.map eIn))) 0]) 7 ?_ (fz301 g w rows kind T a _ (by omega) (by omega)) ?_
 ·simp only[rfs,List.mapM_cons,M1.frz];rfl
 simp only[go_sem];refine hK _ _ _ ?_
 first|clear hK K|clear hK|skip
 have C3:SlM eTd 3 h1 (n+1) n1 r1 T.reverse:=c3.next rfl (fun x _ _=>rfl) (Nat.le_refl _) (by omega);have hn1:n<n1:=by omega
 clear c1 c2 c3 m2 M1 k2 k3 k4 k5 k6 zb zb' zR zR';have hw7:IntKind.wrap .i64 ((p.right.length:Int) - 1)=(p.right.length:Int) - 1:=wrap64 (by omega) (by omega);refine W.seqk fun K hK=>?_;refine W.rseq (k:=5) rfl fun K hK=>?_;simp only[go_sem,hp1,ePr,List.length_map,hw7];refine hK _ _ _ ?_;clear hK K
 have nx0:∀(t':Fr) (h':Heap) (n':Nat),n<n'→(∀x,x<n→h' x=h x)→SlM eTd 3 h' (n+1) n' (t' 5) (layL w rows kind T p.right).reverse→K t' h' n':=by
  intro t' h' n' e1 e2 e3;refine hK _ _ _ ?_;clear hK K;refine W.rseq (k:=2) rfl fun K hK=>?_;simp only[go_sem];refine hK _ _ _ ?_;clear hK K;refine W.ret ?_;simp only[go_sem]
  exact⟨by omega,e2,e3.next rfl (fun x _ _=>rfl) (by omega) (by omega)⟩
 clear hK
 refine W.block (W.while (fun m t h2 n2=>∃k:Nat,m=k∧k≤p.right.length∧n<n2∧h2 n=some (.cells [ePr p])∧(∀x,x<n→h2 x=h x)∧SlM eTd 3 h2 (n+1) n2 (t 5) (layL w rows kind T (p.right.drop k)).reverse∧(t 0=.ptr bR 0 0∧t 3=.ptr n 0 0)∧t 6=.int .u32 (lastG w (layL w rows kind T (p.right.drop k)):Nat)∧t 7=.int .i64 ((k:Int) - 1)) p.right.length
  ⟨p.right.length,rfl,Nat.le_refl _,by omega,hp1,hf1,by rw[List.drop_length];exact C3.next rfl (fun x _ _=>rfl) (by omega) (Nat.le_refl _),⟨rfl,rfl⟩,by rw[List.drop_length];rfl,rfl⟩ fun mm t h2 n2 ⟨k,i1,i2,i3,i4,i5,i6,i7,i8,i9⟩=>?_)
 obtain⟨a0,a3⟩:=i7;refine W.seq ?_;refine W.rseq (k:=2) rfl fun K hK=>?_;simp only[go_sem,i9];refine hK _ _ _ ?_;clear hK K
 cases k with
 |zero=>
  refine W.condF (by simp only[go_sem];rfl) ?_;refine W.exit ?_;simp only[go_sem];rw[List.drop_zero] at i6;exact nx0 _ _ _ (by omega) i5 (i6.next rfl (fun x _ _=>rfl) (by omega) (Nat.le_refl _))
 |succ i=>
  have e9:t 7=.int .i64 (i:Int):=by rw[i9];congr 1;omega
  clear i9;refine W.condT (by simp only[go_sem];exact congrArg (fun b=>some (AV.bool b)) (decide_eq_true (by omega))) ?_;refine W.skip ?_;simp only[go_sem];obtain⟨s,hsi⟩:=get_some (show i<p.right.length by omega);have hsm:=hs s (List.mem_of_getElem? hsi)
  have hdr:p.right.drop i=s::p.right.drop (i+1):=by
   rw[List.drop_eq_getElem_cons (by omega)]
   congr 1
   exact(List.getElem_eq_iff _).2 hsi
  obtain⟨L,hL⟩:∃L,L=layL w rows kind T (p.right.drop (i+1)):=⟨_,rfl⟩;have hGL:GdT L:=by rw[hL];exact hgd.lay hr _ fun y hy=>hs y (List.mem_of_mem_drop hy)
  have hLl:L.length≤2^31:=by rw[hL,lay_len,List.length_drop];omega
  rw[←hL] at i6 i8;obtain⟨G,hG⟩:∃G,G=aheadN w rows kind s (lastG w L):=⟨_,rfl⟩;have hlay:layL w rows kind T (p.right.drop i)=(s,G)::L:=by rw[hdr,lay_cons,←hL,←hG]
  have zn:∀j,¬n=n2+j:=fun j=>by omega
  refine W.seqk fun K hK=>?_
  have nx:∀(t':Fr) (h':Heap) (n':Nat),n<n'→h' n=some (.cells [ePr p])→(∀x,x<n→h' x=h x)→SlM eTd 3 h' (n+1) n' (t' 5) ((s,G)::L).reverse→(t' 0=.ptr bR 0 0∧t' 3=.ptr n 0 0)→t' 6=.int .u32 (G:Nat)→t' 7=.int .i64 (i:Int)→K t' h' n':=by
   intro t' h' n' e1 e2 e3 e4 e5 e6 e7;refine hK _ _ _ ?_;clear hK K;refine W.region (k:=3) rfl ?_;simp only[go_sem,e7];refine⟨i,by omega,i,rfl,by omega,by omega,e2,e3,by rw[hlay];exact e4.next rfl (fun x _ _=>rfl) (by omega) (Nat.le_refl _),e5,by rw[hlay];exact e6, ?_⟩;rw[wrap64 (by omega) (by omega)]
  clear hK;have M2:=m.next i5 (show n≤n2 by omega);refine W.block ?_;have hg32:lastG w L<2^32:=hGL.last (by omega);refine W.rseq (k:=9) rfl fun K hK=>?_;simp only[go_sem,a0,a3,i4,ePr,hsi,e9,i8,zn]
  refine VCall.frzq (as':=[.rp (eLd g w rows kind (.ro (T.reverse.map eTd)) a (.ro (out.map eIn))) 0,.agg (eSy s),.int .u32 (lastG w L:Nat)]) 7 ?_ (fz168 g w rows kind _ a _ s (lastG w L) hw hr hrw hg32 hsm) ?_
  ·simp only[rfs,List.mapM_cons,M2.frz];rfl
  simp only[go_sem];refine hK _ _ _ ?_
  first|clear hK K|clear hK|skip
  rw[←hG];refine W.region (k:=11) rfl ?_;rcases i6 with ⟨w0,w5⟩|⟨w0,w5⟩|⟨b2,w5,w1,w2,w3⟩
  ·simp only[go_sem,w5,a3,i4,ePr,hsi,e9,zn,show(n2≤n2+14)=True from eq_true (by omega),if_true,Nat.one_mul];have hL0:L=[]:=List.reverse_eq_nil_iff.1 w0;refine nx _ _ _ (by omega) (by simp only[go_sem,zn,i4]) (fun x hx=>by simp only[go_sem,show ∀j,¬x=n2+j from fun j=>by omega];exact i5 x hx) (.inr (.inr ⟨n2+20,by rw[hL0];rfl,by omega,by omega,by rw[hL0];simp only[go_sem];rfl⟩)) ⟨a0,a3⟩ rfl e9
  ·simp only[go_sem,w5,a3,i4,ePr,hsi,e9,zn,show(n2≤n2+14)=True from eq_true (by omega),if_true,Nat.one_mul];have hL0:L=[]:=List.reverse_eq_nil_iff.1 w0;refine nx _ _ _ (by omega) (by simp only[go_sem,zn,i4]) (fun x hx=>by simp only[go_sem,show ∀j,¬x=n2+j from fun j=>by omega];exact i5 x hx) (.inr (.inr ⟨n2+20,by rw[hL0];rfl,by omega,by omega,by rw[hL0];simp only[go_sem];rfl⟩)) ⟨a0,a3⟩ rfl e9
  ·have zb:∀j,¬b2=n2+j:=fun j=>by omega
   have tkL:(L.reverse.map eTd).take L.length=L.reverse.map eTd:=List.take_of_length_le (by simp);simp only[go_sem,w5,w3,a3,i4,ePr,hsi,e9,zn,zb,List.length_reverse,List.length_map,and_false,if_false,if_true,tkL,show(L.length+1)*24≤140737488355328 by omega];refine nx _ _ _ (by omega) (by simp only[go_sem,zn,i4,show ¬n=b2 by omega]) (fun x hx=>by simp only[go_sem,show ∀j,¬x=n2+j from fun j=>by omega,show ¬x=b2 by omega];exact i5 x hx) (.inr (.inr ⟨n2+20,by rw[List.length_reverse,List.length_cons];rfl,by omega,by omega,by simp only[go_sem];rw[List.reverse_cons,List.map_append];rfl⟩)) ⟨a0,a3⟩ rfl e9
end Go.Av
namespace Go.Av
open Go.Proofs
set_option maxRecDepth 100000
def candL (g:Gr) (w:List Int) (kind:Int) (a:Nat) (x:Int):List Int:=
 if kind=2∧a=w.length then [((ranksL g true).getD x.toNat (0,0)).2] else if kind=1 then (prodsL g x).reverse else prodsL g x
def rightOf (g:Gr) (c:Int):List Sy:=(g.prods[c.toNat]?.map (·.right)).getD []
def tryL (g:Gr) (w:List Int) (rows:List (Nat→Nat)) (kind:Int) (T:List Lt) (a:Nat):List Int→Option (Int×List Lt)
 |[]=>none
 |c::cs=>let L:=layL w rows kind T (rightOf g c);if (lastG w L).testBit a=true then some (c,L) else tryL g w rows kind T a cs
theorem try_cons {g:Gr} {w:List Int} {rows:List (Nat→Nat)} {kind:Int} {T:List Lt} {a:Nat} {c:Int} {cs:List Int}:tryL g w rows kind T a (c::cs)=if (lastG w (layL w rows kind T (rightOf g c))).testBit a=true then some (c,layL w rows kind T (rightOf g c)) else tryL g w rows kind T a cs:=rfl
def ChR (bR:Nat) (g:Gr) (w:List Int) (rows:List (Nat→Nat)) (kind:Int) (h:Heap) (n a:Nat) (out:List Int) (res:Option (Int×List Lt)) (r:AV) (h':Heap) (n':Nat):Prop:=
 match res with
 |none=>r=.bool false
 |some (c,L)=>r=.bool true∧∃tv' ov',LM bR g w rows kind h' n' L a (out++[c]) tv' ov'
theorem OwnFc.pf' {g:Gr} (hg:g.Small):PF pg Tq 71 [.agg (eGr g)] (.ro ((ranksL g true).map eFc)):=OwnFc.pf (fz71 g hg)
set_option maxHeartbeats 16000000 in
theorem fz225 (bR:Nat) (g:Gr) (w:List Int) (rows:List (Nat→Nat)) (kind:Int) (h:Heap) (n:Nat) (T:List Lt) (a:Nat) (out:List Int) (tv ov:AV) (m:LM bR g w rows kind h n T a out tv ov) (hsl:tv≠.nils∧tv≠.emn) (ξ:Nat)
  (hg:g.Small) (hp60:g.prods.length<2^40) (hw:rows.length=w.length+1) (hr:rows.length≤30) (hrw:RwIn rows) (hT:T.length<2^30) (hgd:GdT T) (ha:a≤w.length) (ho:out.length<2^30)
  (hps:∀p∈g.prods,p.right.length<2^20∧∀s∈p.right,s.non=true→0≤s.n∧s.n<24) (hne:prodsL g ξ≠[]) (hrk:ξ<(ranksL g true).length)
  (hcd:∀c∈candL g w kind a ξ,∃i:Nat,c=i∧i<g.prods.length):
  FH pg Tq 225 [.ptr bR 0 0,.int .i64 (ξ:Nat)] h n fun r h' n'=>ChR bR g w rows kind h n a out (tryL g w rows kind T a (candL g w kind a ξ)) r h' n':=by
 have m':=m;obtain⟨m1,m2,m3,m4,m5⟩:=m';have zR:∀j,¬bR=n+j:=fun j=>by omega
 have zR':¬bR=n:=by omega
 refine FH.of (N:=83) (rs:=#[.tmp 4]) Tryz.func225 rfl rfl (of_decide_eq_true rfl) rfl (by decide) ?_;refine W.rseq (k:=1) rfl fun K hK=>?_;simp only[go_sem];refine hK _ _ _ ?_;clear hK K;refine W.rseq (k:=7) rfl fun K hK=>?_;simp only[go_sem,m2,eLd,zR,zR']
 refine VCall.own (sz:=1) (es:=(prodsL g ξ).map eIn) 6 (fz144' g ξ hp60 hne) rfl ?_;simp only[go_sem];refine hK _ _ _ ?_
 first|clear hK K|clear hK|skip
 obtain⟨C0,hC0⟩:∃C0,C0=prodsL g ξ:=⟨_,rfl⟩;rw[←hC0];have hC0l:C0.length<2^40:=by rw[hC0];exact Nat.lt_of_le_of_lt (prodsJ_len _) hp60
 have hrt:∀h':Heap,(∀y,y<n→h' y=h y)→h' bR=some (.cells [eLd g w rows kind tv a ov]):=fun h' q=>(q bR m1).trans m2
 refine W.seqk fun K hK=>?_
 have nx1:∀(t':Fr) (h':Heap) (n':Nat) (C:List Int) (bc:Nat),n≤bc→bc<n'→h' bc=some (.cells (C.map eIn))→(∀y,y<n→h' y=h y)→C=(if kind=1 then C0.reverse else C0)→t' 0=.ptr bR 0 0→t' 1=.int .i64 (ξ:Nat)→t' 5=.sl bc 0 C.length 1→K t' h' n':=by
  intro t' h' n' C bc e1 e2 e3 e4 e5 e6 e7 e8;refine hK _ _ _ ?_;clear hK K;have hrt':=hrt h' e4;have zR2:∀j,¬bR=n'+j:=fun j=>by omega
  have lR2:∀j,(bR<n'+j)=True:=fun j=>eq_true (by omega)
  have lR3:(bR<n')=True:=eq_true (by omega);refine W.seqk fun K hK=>?_
  have nx2:∀(t':Fr) (h':Heap) (n':Nat) (C:List Int) (bc:Nat),n≤bc→bc<n'→h' bc=some (.cells (C.map eIn))→(∀y,y<n→h' y=h y)→C=candL g w kind a ξ→C.length<2^40→t' 0=.ptr bR 0 0→t' 5=.sl bc 0 C.length 1→K t' h' n':=by
   intro t' h' n' C bc e1 e2 e3 e4 e5 e5l e6 e7;refine hK _ _ _ ?_;rw[←e5];rw[←e5] at hcd;clear hK K e5;refine W.seqk fun K hK=>?_;refine W.rseq (k:=3) rfl fun K hK=>?_;simp only[go_sem,e7];refine hK _ _ _ ?_;clear hK K
   have nx0:∀(t':Fr) (h':Heap) (n':Nat),tryL g w rows kind T a C=none→K t' h' n':=by
    intro t' h' n' q1;refine hK _ _ _ ?_;clear hK K;refine W.rseq (k:=1) rfl fun K hK=>?_;simp only[go_sem];refine hK _ _ _ ?_;clear hK K;refine W.ret ?_;simp only[go_sem]
    rw[q1];rfl
   clear hK
   refine W.block (W.while (fun mm t h2 n2=>∃j:Nat,mm=C.length - j∧j≤C.length∧bc<n2∧h2 bc=some (.cells (C.map eIn))∧(∀y,y<n→h2 y=h y)∧tryL g w rows kind T a (C.drop j)=tryL g w rows kind T a C∧(t 0=.ptr bR 0 0∧t 49=.sl bc 0 C.length 1∧t 50=.int .i64 C.length)∧t 51=.int .i64 j) C.length
    ⟨0,rfl,by omega,by omega,e3,e4,by rw[List.drop_zero],⟨e6,rfl,rfl⟩,rfl⟩ fun mm t h2 n2 ⟨j,i1,i2,i3,i4,i5,i6,i7,i8⟩=>?_)
   have i7':=i7;obtain⟨a0,a49,a50⟩:=i7';refine W.rseq (k:=1) rfl fun K hK=>?_;simp only[go_sem,a50,i8];refine hK _ _ _ ?_;clear hK K;refine W.seq ?_
   refine W.cond rfl (fun hc=>?_) fun hc=>?_
   ·refine W.skip ?_;simp only[go_sem];have hj:j<C.length:=by simp at hc;omega
    obtain⟨c,hcj⟩:=get_some hj;obtain⟨ci,rfl,hci⟩:=hcd c (List.mem_of_getElem? hcj);obtain⟨p,hpc⟩:=get_some hci;have hpm:=hps p (List.mem_of_getElem? hpc);have hro:rightOf g (ci:Int)=p.right:=by rw[rightOf,Int.toNat_natCast,hpc];rfl
    have hdr:C.drop j=(ci:Int)::C.drop (j+1):=by
     rw[List.drop_eq_getElem_cons hj]
     congr 1
     exact(List.getElem_eq_iff _).2 hcj
    have hmj:(C.map eIn)[j]?=some [.int .i64 (ci:Int)]:=by rw[List.getElem?_map,hcj];rfl
    rw[hdr,try_cons,hro] at i6;obtain⟨L,hL⟩:∃L,L=layL w rows kind T p.right:=⟨_,rfl⟩;have hGL:GdT L:=by rw[hL];exact hgd.lay hr _ hpm.2
    have hLl:L.length<2^31:=by rw[hL,lay_len];omega
    rw[←hL] at i6;have hrt2:=hrt h2 i5;refine W.seqk fun K hK=>?_
    have nx:∀(t':Fr) (h':Heap) (n':Nat),bc<n'→h' bc=some (.cells (C.map eIn))→(∀y,y<n→h' y=h y)→tryL g w rows kind T a (C.drop (j+1))=tryL g w rows kind T a C→(t' 0=.ptr bR 0 0∧t' 49=.sl bc 0 C.length 1∧t' 50=.int .i64 C.length)→t' 51=.int .i64 j→K t' h' n':=by
     intro t' h' n' q1 q2 q3 q4 q5 q6;refine hK _ _ _ ?_;clear hK K;refine W.region (k:=2) rfl ?_;simp only[go_sem,q6];refine⟨C.length - (j+1),by omega,j+1,rfl,by omega,by omega,q2,q3,q4,q5, ?_⟩;rw[wrap64 (by omega) (by omega)];rfl
    clear hK;refine W.block ?_;refine W.rseq (k:=3) rfl fun K hK=>?_;simp only[go_sem,a49,i8,i4,hmj,show(j:Int)<(C.length:Int) by omega];refine hK _ _ _ ?_;clear hK K;refine W.rseq (k:=11) rfl fun K hK=>?_;simp only[go_sem,a0,hrt2,eLd,hpc]
    refine VCall.heap (fz267 bR g w rows kind _ _ T a out tv ov (m.next i5 (by omega)) hsl p hw hr hrw hT hgd hpm.1 hpm.2) fun r1 h3 n3 ⟨c1,c2,c3⟩=>?_
    rw[←hL] at c3;simp only[go_sem];refine hK _ _ _ ?_
    first|clear hK K|clear hK|skip
    have h3s:∀y,y<n→h3 y=h y:=fun y hy=>by rw[c2 y (by omega)];exact i5 y hy
    have h3c:h3 bc=some (.cells (C.map eIn)):=by rw[c2 bc (by omega)];exact i4
    have M3:=m.next h3s (show n≤n3 by omega);refine W.rseq (k:=3) rfl fun K hK=>?_;simp only[go_sem,a0]
    refine VCall.frzq (as':=[.rp (eLd g w rows kind (.ro (T.reverse.map eTd)) a (.ro (out.map eIn))) 0,.ro (L.reverse.map eTd)]) 7 ?_ (fz170 g w rows kind _ L a _ (by omega) (by omega) (by omega) (hGL.last (by omega))) ?_
    ·have hr1:rf true 6 h3 r1=some (.ro (L.reverse.map eTd)):=c3.frz (d:=4) fun x _=>by simp[rfs,rf,eTd]
     simp only[rfs,List.mapM_cons,M3.frz,hr1];rfl
    simp only[go_sem];refine hK _ _ _ ?_
    first|clear hK K|clear hK|skip
    cases hb:(lastG w L).testBit a
    ·refine W.condF (by simp only[go_sem,hb]) ?_;refine W.skip ?_;simp only[go_sem];rw[hb,if_neg (by decide)] at i6;exact nx _ _ _ (by omega) h3c h3s i6 i7 i8
    ·refine W.condT (by simp only[go_sem,hb]) ?_;rw[hb,if_pos rfl] at i6;rw[←i6];have hrt3:=hrt h3 h3s;refine W.seqk fun K hK=>?_
     have fin:∀(t':Fr) (h':Heap) (n':Nat) (tn:AV),n3≤n'→h' bR=some (.cells [eLd g w rows kind tn a ov])→(∀y,bR<y→y<n→h' y=h y)→((L=[]∧(tn=.nils∨tn=.emn))∨∃b,tn=.sl b 0 L.length 3∧n≤b∧b<n'∧h' b=some (.cells (L.reverse.map eTd)))→t' 0=.ptr bR 0 0→t' 7=.int .i64 (ci:Int)→K t' h' n':=by
      intro t' h' n' tn q1 q2 q3 q4 q5 q6;refine hK _ _ _ ?_;clear hK K;have zR:∀j,¬bR=n'+j:=fun j=>by omega
      have lR:∀j,(bR<n'+j)=True:=fun j=>eq_true (by omega)
      have lR':(bR<n')=True:=eq_true (by omega);refine W.rseq (k:=11) rfl fun K hK=>?_
      rcases m4 with ⟨w0,rfl⟩|⟨b3,rfl,w1,w2,w3⟩
      ·simp only[go_sem,q5,q6,q2,eLd,zR,lR,lR',show(n'≤n'+6)=True from eq_true (by omega),if_true,Nat.one_mul];refine hK _ _ _ ?_
       first|clear hK K|clear hK|skip
       refine W.rseq (k:=1) rfl fun K hK=>?_;simp only[go_sem];refine hK _ _ _ ?_;clear hK K;refine W.ret ?_;simp only[go_sem];subst w0
       refine⟨rfl,tn,.sl (n'+7) 0 1 1,by omega,by simp only[go_sem];rfl, ?_,.inr ⟨n'+7,by rfl,by omega,by omega,by simp only[go_sem,show ¬n'+7=bR by omega];rfl⟩,fun b k b' k' p1 p2=>?_⟩
       ·rcases q4 with q4|⟨b,p1,p2,p3,p4⟩
        ·exact .inl q4
        ·exact .inr ⟨b,_,p1,by omega,by omega,by simp only[go_sem,show ∀j,¬b=n'+j from fun j=>by omega,show ¬b=bR by omega];exact p4,by simp,by rw[List.take_of_length_le (by simp)]⟩
       ·injection p2 with p3
        rcases q4 with ⟨_,q4⟩|⟨b9,rfl,p4,p5,p6⟩
        ·rcases q4 with rfl|rfl<;>cases p1
        ·injection p1 with p7
         omega
      ·have hb3:h' b3=some (.cells (out.map eIn)):=(q3 b3 (by omega) w2).trans w3;have z3:∀j,¬b3=n'+j:=fun j=>by omega
       have tkL:(out.map eIn).take out.length=out.map eIn:=List.take_of_length_le (by simp);simp only[go_sem,q5,q6,q2,eLd,zR,lR,lR',hb3,z3,tkL,List.length_map,and_false,if_false,if_true,show ¬bR=b3 by omega,show(out.length+1)*8≤140737488355328 by omega,show(n'≤b3)=False from eq_false (by omega)];refine hK _ _ _ ?_
       first|clear hK K|clear hK|skip
       refine W.rseq (k:=1) rfl fun K hK=>?_;simp only[go_sem];refine hK _ _ _ ?_;clear hK K;refine W.ret ?_;simp only[go_sem]
       refine⟨rfl,tn,.sl (n'+7) 0 (out.length+1) 1,by omega,by simp only[go_sem];rfl, ?_,.inr ⟨n'+7,by rw[List.length_append];rfl,by omega,by omega,by simp only[go_sem,show ¬n'+7=bR by omega];rw[List.map_append];rfl⟩,fun b k b' k' p1 p2=>?_⟩
       ·rcases q4 with q4|⟨b,p1,p2,p3,p4⟩
        ·exact .inl q4
        ·exact .inr ⟨b,_,p1,by omega,by omega,by simp only[go_sem,show ∀j,¬b=n'+j from fun j=>by omega,show ¬b=bR by omega,show ¬b=b3 by omega];exact p4,by simp,by rw[List.take_of_length_le (by simp)]⟩
       ·injection p2 with p3
        rcases q4 with ⟨_,q4⟩|⟨b9,rfl,p4,p5,p6⟩
        ·rcases q4 with rfl|rfl<;>cases p1
        ·injection p1 with p7
         omega
     clear hK;refine W.region (k:=5) rfl ?_;rcases c3 with ⟨w0,rfl⟩|⟨w0,rfl⟩|⟨b3,rfl,w1,w2,w3⟩
     ·simp only[go_sem,a0,hrt3,eLd];refine fin _ _ _ .emn (by omega) (by simp only[go_sem];rfl) (fun y q1 q2=>by simp only[go_sem,show ¬y=bR by omega];exact h3s y q2) (.inl ⟨List.reverse_eq_nil_iff.1 w0,.inr rfl⟩) a0 rfl
     ·simp only[go_sem,a0,hrt3,eLd];refine fin _ _ _ .nils (by omega) (by simp only[go_sem];rfl) (fun y q1 q2=>by simp only[go_sem,show ¬y=bR by omega];exact h3s y q2) (.inl ⟨List.reverse_eq_nil_iff.1 w0,.inl rfl⟩) a0 rfl
     ·simp only[go_sem,a0,hrt3,eLd];refine fin _ _ _ (.sl b3 0 L.length 3) (by omega) (by simp only[go_sem,List.length_reverse];rfl) (fun y q1 q2=>by simp only[go_sem,show ¬y=bR by omega];exact h3s y q2) (.inr ⟨b3,rfl,by omega,by omega,by simp only[go_sem,show ¬b3=bR by omega];exact w3⟩) a0 rfl
   ·refine W.exit ?_;simp only[go_sem];have hj:j=C.length:=by simp at hc;omega
    rw[hj,List.drop_length] at i6;exact nx0 _ _ _ i6.symm
  clear hK;by_cases hk2:kind=2
  ·by_cases haw:a=w.length
   ·refine W.dseq (k:=17) rfl fun K hK=>?_;simp only[go_sem,e6,hrt',eLd,zR2,lR2,lR3,decide_eq_true hk2,List.length_map,decide_eq_true (show(a:Int)=(w.length:Int) by omega)];refine hK _ _ _ _ (by kernel_rfl) ?_;clear hK K;refine W.condT (by simp only[go_sem]) ?_
    obtain⟨fc,hfc⟩:=get_some hrk;refine W.region (k:=11) rfl ?_;simp only[go_sem,e6,hrt',eLd,zR2];refine VCall.frz 6 (OwnFc.pf' hg) rfl ?_;simp only[go_sem,e7,hfc,eFc];refine nx2 _ _ _ [fc.2] (n'+17+9) (by omega) (by omega) (by simp only[go_sem];rfl) (fun y hy=>by simp only[go_sem,show ∀j,¬y=n'+j from fun j=>by omega];exact e4 y hy) ?_ (by simp) e6 rfl;rw[candL,if_pos ⟨hk2,haw⟩,Int.toNat_natCast,List.getD_eq_getElem?_getD,hfc];rfl
   ·refine W.dseq (k:=17) rfl fun K hK=>?_;simp only[go_sem,e6,hrt',eLd,zR2,lR2,lR3,decide_eq_true hk2,List.length_map,decide_eq_false (show ¬(a:Int)=(w.length:Int) by omega)];refine hK _ _ _ _ (by kernel_rfl) ?_;clear hK K;refine W.condF (by simp only[go_sem]) ?_;refine W.skip ?_;simp only[go_sem]
    refine nx2 _ _ _ C bc e1 (by omega) e3 e4 ?_ ?_ e6 e8
    ·rw[candL,if_neg (fun q=>haw q.2),e5,hC0]
    ·rw[e5];split
     ·rw[List.length_reverse];exact hC0l
     ·exact hC0l
  ·refine W.dseq (k:=17) rfl fun K hK=>?_;simp only[go_sem,e6,hrt',eLd,zR2,lR2,lR3,decide_eq_false hk2];refine hK _ _ _ _ (by kernel_rfl) ?_;clear hK K;refine W.condF (by simp only[go_sem]) ?_;refine W.skip ?_;simp only[go_sem]
   refine nx2 _ _ _ C bc e1 (by omega) e3 e4 ?_ ?_ e6 e8
   ·rw[candL,if_neg (fun q=>hk2 q.1),e5,hC0]
   ·rw[e5];split
    ·rw[List.length_reverse];exact hC0l
    ·exact hC0l
 clear hK;have z6:¬bR=n+6:=by omega
 have hsm:∀(o:Option AO) (y:Nat),y<n→upd h (n+6) o y=h y:=fun o y hy=>by simp only[go_sem,show ¬y=n+6 by omega]
 by_cases hk1:kind=1
 ·refine W.rseq (k:=5) rfl fun K hK=>?_;simp only[go_sem,m2,eLd,zR,zR',z6,decide_eq_true hk1];refine hK _ _ _ ?_;clear hK K;refine W.condT (by simp only[go_sem]) ?_;refine W.region (k:=2) rfl ?_;simp only[go_sem,List.length_map]
  refine VCall.heap (fz266 C0 _ _ _ (by omega) (by simp only[go_sem]) hC0l) fun r1 h1 n1 ⟨c1,c2,c3⟩=>?_
  simp only[go_sem];refine nx1 _ _ _ C0.reverse (n+6) (by omega) (by omega) c2 (fun y hy=>by rw[c3 y (by omega) (by omega)];exact hsm _ y hy) (by rw[if_pos hk1]) rfl rfl (by rw[List.length_reverse];rfl)
 ·refine W.rseq (k:=5) rfl fun K hK=>?_;simp only[go_sem,m2,eLd,zR,zR',z6,decide_eq_false hk1];refine hK _ _ _ ?_;clear hK K;refine W.condF (by simp only[go_sem]) ?_;refine W.skip ?_;simp only[go_sem]
  refine nx1 _ _ _ C0 (n+6) (by omega) (by omega) (by simp only[go_sem]) (fun y hy=>hsm _ y hy) (by rw[if_neg hk1]) rfl rfl (by simp only[go_sem,List.length_map])
end Go.Av
namespace Go.Av
open Go.Proofs
set_option maxRecDepth 100000
structure GoodG (g:Gr):Prop where
 right:right g=true
 of:∀x:Int,0≤x→x<g.nons→prodsL g x≠[]
 fact:∀x:Int,0≤x→x<g.nons→∃i:Nat,((ranksL g true).getD x.toNat (0,0)).2=i∧i<g.prods.length∧∃p,g.prods[i]?=some p∧p.left=x
theorem fit_good {g:Gr} {w:List Int} (h:fitG g w=true):GoodG g:=by
 have hr:=fit_right h;obtain⟨hlen,_,hsh,_⟩:=ranks_fin (terms:=true) hr
 have hk:∀x:Int,0≤x→x<g.nons→∃i:Nat,((ranksL g true).getD x.toNat (0,0)).2=i∧i<g.prods.length∧∃p,g.prods[i]?=some p∧p.left=x:=by
  intro x h0 hx;obtain⟨f,hf⟩:=get_some (show x.toNat<(ranksL g true).length by omega);have hs:=hsh x.toNat f hf;rw[fitG,Bool.and_eq_true] at h;have h1:=of_decide_eq_true h.1
  have hz:f.1≠0:=by
   intro hz
   cases hs:seek (zR (ranksL g true)) g.nons.toNat 0 with
   |some i=>
    rw[checkL,hr,hs] at h1;cases h1
   |none=>
    have:=seek_none hs x.toNat (by omega) (by omega);rw[zR,rk_get hf] at this;simp[hz] at this
  rw[List.getD_eq_getElem?_getD,hf];show ∃i:Nat,f.2=i∧_;unfold showAt at hs;by_cases c1:f.1<0
  ·rw[if_pos c1] at hs;cases hs
  rw[if_neg c1,if_neg hz] at hs;by_cases c2:f.2<0
  ·rw[if_pos c2] at hs;cases hs
  rw[if_neg c2] at hs
  cases hp:g.prods[f.2.toNat]? with
  |none=>rw[hp] at hs;cases hs
  |some p=>
   rw[hp] at hs;simp only[Bool.and_eq_true,decide_eq_true_eq] at hs;exact⟨f.2.toNat,by omega,(List.getElem?_eq_some_iff.1 hp).1,p,hp,by rw[hs.1];omega⟩
 refine⟨hr,fun x h0 hx=>?_,hk⟩;obtain⟨i,_,hi,p,hp,hl⟩:=hk x h0 hx;intro e;have:(i:Int)∈prodsL g x:=prodsJ_mem.2 ⟨i,hi,rfl,p,hp,hl⟩;rw[e] at this;cases this
theorem GoodG.cand {g:Gr} (hg:GoodG g) {w:List Int} {kind:Int} {a:Nat} {x:Int} (h0:0≤x) (hx:x<g.nons) {c:Int} (hc:c∈candL g w kind a x):∃i:Nat,c=i∧i<g.prods.length∧∃p,g.prods[i]?=some p∧p.left=x:=by
 have h1:∀c∈prodsL g x,∃i:Nat,c=i∧i<g.prods.length∧∃p,g.prods[i]?=some p∧p.left=x:=fun c hc=>by
  obtain⟨i,h1,h2,h3⟩:=prodsJ_mem.1 hc;exact⟨i,h2,h1,h3⟩
 rw[candL] at hc;split at hc
 ·rw[List.mem_singleton.1 hc];exact hg.fact x h0 hx
 ·split at hc
  ·exact h1 c (List.mem_reverse.1 hc)
  ·exact h1 c hc
theorem try_some {g:Gr} {w:List Int} {rows:List (Nat→Nat)} {kind:Int} {T:List Lt} {a:Nat}:∀{cs:List Int} {c:Int} {L:List Lt},tryL g w rows kind T a cs=some (c,L)→c∈cs∧L=layL w rows kind T (rightOf g c)∧(lastG w L).testBit a=true
 |[],c,L,h=>by cases h
 |d::cs,c,L,h=>by
  rw[try_cons] at h;split at h
  ·rename_i hb
   injection h with h
   injection h with h1 h2
   subst h1 h2;exact⟨by simp,rfl,hb⟩
  ·obtain⟨h1,h2⟩:=try_some h;exact⟨by simp[h1],h2⟩
def runL (g:Gr) (w:List Int) (rows:List (Nat→Nat)) (kind:Int):Nat→List Lt→Nat→List Int→Int×List Int
 |0,_,_,_=>(0,[])
 |_+1,[],_,out=>(0,out)
 |k+1,x::T,a,out=>
  if x.1.non=true then
   if out.length=2000 then (5,[]) else match tryL g w rows kind T a (candL g w kind a x.1.n) with
    |none=>(11,[])
    |some (c,L)=>runL g w rows kind k L a (out++[c])
  else runL g w rows kind k T (min (a+1) w.length) out
def muT (T:List Lt) (out:List Int):Nat:=(2000 - out.length)*9+T.length
def NtT (g:Gr) (T:List Lt):Prop:=∀x∈T,x.1.non=true→0≤x.1.n∧x.1.n<g.nons
theorem NtT.lay {g:Gr} {w:List Int} {rows:List (Nat→Nat)} {kind:Int} {T:List Lt} (h:NtT g T):∀r:List Sy,(∀s∈r,s.non=true→0≤s.n∧s.n<g.nons)→NtT g (layL w rows kind T r)
 |[],_=>h
 |s::r,hs=>fun x hx=>by
  rw[lay_cons] at hx;rcases List.mem_cons.1 hx with rfl|hx
  ·exact hs s (by simp)
  ·exact NtT.lay h r (fun y hy=>hs y (by simp[hy])) x hx
theorem run_term {g:Gr} {w:List Int} {rows:List (Nat→Nat)} {kind:Int} {k a:Nat} {x:Lt} {T:List Lt} {out:List Int} (h:x.1.non=false):runL g w rows kind (k+1) (x::T) a out=runL g w rows kind k T (min (a+1) w.length) out:=by
 rw[runL,h,if_neg (by decide)]
theorem run_big {g:Gr} {w:List Int} {rows:List (Nat→Nat)} {kind:Int} {k a:Nat} {x:Lt} {T:List Lt} {out:List Int} (h:x.1.non=true) (ho:out.length=2000):runL g w rows kind (k+1) (x::T) a out=(5,[]):=by
 rw[runL,h,if_pos rfl,if_pos ho]
theorem run_none {g:Gr} {w:List Int} {rows:List (Nat→Nat)} {kind:Int} {k a:Nat} {x:Lt} {T:List Lt} {out:List Int} (h:x.1.non=true) (ho:¬out.length=2000) (ht:tryL g w rows kind T a (candL g w kind a x.1.n)=none):runL g w rows kind (k+1) (x::T) a out=(11,[]):=by
 rw[runL,h,if_pos rfl,if_neg ho,ht]
theorem run_some {g:Gr} {w:List Int} {rows:List (Nat→Nat)} {kind:Int} {k a:Nat} {x:Lt} {T L:List Lt} {c:Int} {out:List Int} (h:x.1.non=true) (ho:¬out.length=2000) (ht:tryL g w rows kind T a (candL g w kind a x.1.n)=some (c,L)):runL g w rows kind (k+1) (x::T) a out=runL g w rows kind k L a (out++[c]):=by
 rw[runL,h,if_pos rfl,if_neg ho,ht]
set_option maxHeartbeats 16000000 in
theorem fz171 (bR:Nat) (g:Gr) (w:List Int) (rows:List (Nat→Nat)) (kind:Int) (h:Heap) (n:Nat) (T:List Lt) (a:Nat) (out:List Int) (tv ov:AV) (m:LM bR g w rows kind h n T a out tv ov)
  (hg:g.Small) (hG:GoodG g) (hw:rows.length=w.length+1) (hr:rows.length≤30) (hrw:RwIn rows) (hgd:GdT T) (hnt:NtT g T) (ha:a≤w.length) (ho:out.length≤2000) (hB:T.length+8*(2000 - out.length)≤2^20) (k:Nat) (hk:muT T out<k):
  FH pg Tq 171 [.ptr bR 0 0] h n fun r h' n'=>r=.int .i64 (runL g w rows kind k T a out).1∧((runL g w rows kind k T a out).1=0→∃T' a' tv' ov',LM bR g w rows kind h' n' T' a' (runL g w rows kind k T a out).2 tv' ov'):=by
 obtain⟨⟨hn1,hn2⟩,_,_,hp60,h5⟩:=right_in hG.right;obtain⟨R,hR⟩:∃R,R=runL g w rows kind k T a out:=⟨_,rfl⟩;rw[←hR];refine FH.of (N:=69) (rs:=#[.tmp 2]) Tryz.func171 rfl rfl (of_decide_eq_true rfl) rfl (by decide) ?_;refine W.rseq (k:=1) rfl fun K hK=>?_;simp only[go_sem];refine hK _ _ _ ?_;clear hK K;refine W.seqk fun K hK=>?_
 have nx0:∀(t':Fr) (h':Heap) (n':Nat) (a:Nat) (out:List Int) (tv ov:AV),R=(0,out)→LM bR g w rows kind h' n' [] a out tv ov→K t' h' n':=by
  intro t' h' n' a out tv ov q1 q2;refine hK _ _ _ ?_;clear hK K;refine W.rseq (k:=1) rfl fun K hK=>?_;simp only[go_sem];refine hK _ _ _ ?_;clear hK K;refine W.ret ?_;simp only[go_sem]
  rw[q1];exact⟨rfl,fun _=>⟨[],a,tv,ov,q2.next (fun _ _=>rfl) (by omega)⟩⟩
 have nxE:True:=trivial
 refine W.block (W.while (fun mm t h2 n2=>∃(T:List Lt) (a:Nat) (out:List Int) (tv ov:AV) (k:Nat),mm=muT T out∧muT T out<k∧runL g w rows kind k T a out=R∧LM bR g w rows kind h2 n2 T a out tv ov∧GdT T∧NtT g T∧a≤w.length∧out.length≤2000∧T.length+8*(2000 - out.length)≤2^20∧t 0=.ptr bR 0 0) (muT T out)
  ⟨T,a,out,tv,ov,k,rfl,hk,hR.symm,m.next (fun _ _=>rfl) (by omega),hgd,hnt,ha,ho,hB,rfl⟩ fun mm t h2 n2 ⟨T,a,out,tv,ov,k,i1,i2,i3,i4,i5,i6,i7,i8,i9,i10⟩=>?_)
 clear m hgd hnt ha ho hB hk hR;have i4':=i4;obtain⟨m1,m2,m3,m4,m5⟩:=i4';have zR:∀j,¬bR=n2+j:=fun j=>by omega
 have lR:∀j,(bR<n2+j)=True:=fun j=>eq_true (by omega)
 have lR':(bR<n2)=True:=eq_true (by omega);obtain⟨k,rfl⟩:∃k',k=k'+1:=⟨k - 1,by omega⟩;refine W.seq ?_;rcases m3 with ⟨e0,rfl|rfl⟩|⟨b,es,rfl,k2,k3,k4,k5,k6⟩
 ·refine W.rseq (k:=6) rfl fun K hK=>?_;simp only[go_sem,i10,m2,eLd];refine hK _ _ _ ?_;clear hK K;refine W.condF (by simp only[go_sem]) ?_;refine W.exit ?_;simp only[go_sem];subst e0
  exact nx0 _ _ _ a out _ ov (by rw[←i3];rfl) (i4.next (fun _ _=>rfl) (by omega))
 ·refine W.rseq (k:=6) rfl fun K hK=>?_;simp only[go_sem,i10,m2,eLd];refine hK _ _ _ ?_;clear hK K;refine W.condF (by simp only[go_sem]) ?_;refine W.exit ?_;simp only[go_sem];subst e0
  exact nx0 _ _ _ a out _ ov (by rw[←i3];rfl) (i4.next (fun _ _=>rfl) (by omega))
 ·cases T with
  |nil=>
   refine W.rseq (k:=6) rfl fun K hK=>?_;simp only[go_sem,i10,m2,eLd,List.length_nil];refine hK _ _ _ ?_;clear hK K;refine W.condF (by simp only[go_sem]) ?_;refine W.exit ?_;simp only[go_sem]
   exact nx0 _ _ _ a out _ ov (by rw[←i3];rfl) (i4.next (fun _ _=>rfl) (by omega))
  |cons x T=>
   rw[List.length_cons] at m2 i4 k5 k6 m5;have hT40:T.length<2^30:=by rw[List.length_cons] at i9;omega
   have hbR:¬b=bR:=by omega
   have zb:∀j,¬b=n2+j:=fun j=>by omega
   have lb:∀j,(b<n2+j)=True:=fun j=>eq_true (by omega)
   have hes:es[T.length]?=some (eTd x):=by
    have h1:(es.take (T.length+1))[T.length]?=es[T.length]?:=by rw[List.getElem?_take];simp
    rw[←h1,k6,List.reverse_cons,List.map_append,List.getElem?_append_right (by simp)];simp
   have htk:es.take T.length=T.reverse.map eTd:=by
    have h1:(es.take (T.length+1)).take T.length=es.take T.length:=by rw[List.take_take];simp
    rw[←h1,k6,List.reverse_cons,List.map_append,List.take_append_of_le_length (by simp),List.take_of_length_le (by simp)]
   have hw2:IntKind.wrap .i64 (((T.length+1:Nat):Int) - 1)=(T.length:Int):=by
    rw[wrap64 (by omega) (by omega)];omega
   refine W.rseq (k:=6) rfl fun K hK=>?_;simp only[go_sem,i10,m2,eLd];refine hK _ _ _ ?_;clear hK K
   refine W.condT (by simp only[go_sem];exact congrArg (fun b=>some (AV.bool b)) (decide_eq_true (by omega))) ?_;refine W.skip ?_;simp only[go_sem];refine W.block ?_;refine W.dseq (k:=14) rfl fun K hK=>?_;simp only[go_sem,i10,m2,eLd,hw2,hes,k4,zR,lR,lR',zb,lb,show(T.length:Int)<((T.length+1:Nat):Int) by omega,eTd];refine hK _ _ _ _ (by kernel_rfl) ?_;clear hK K
   have zR3:∀j,¬n2+j=bR:=fun j=>by omega
   refine W.dseq (k:=15) rfl fun K hK=>?_;simp only[go_sem,i10,m2,eLd,hw2,zR,lR,lR',zb,lb,k4,hbR,Nat.zero_le,show T.length≤T.length+1 by omega];refine hK _ _ _ _ (by kernel_rfl) ?_;clear hK K
   have mk:∀(h':Heap) (n' a':Nat),n2≤n'→h' bR=some (.cells [eLd g w rows kind (.sl b 0 T.length 3) a' ov])→(∀y,y<n2→y≠bR→h' y=h2 y)→LM bR g w rows kind h' n' T a' out (.sl b 0 T.length 3) ov:=fun h' n' a' q1 q2 q3=>
    ⟨by omega,q2,.inr ⟨b,es,rfl,k2,by omega,(q3 b k3 hbR).trans k4,by omega,htk⟩,m4.next rfl (fun y p1 p2=>q3 y p2 (by omega)) q1 (Nat.le_refl _),fun b' k b'' k' e1 e2=>by
     injection e1 with e3
     rw[←e3]
     exact m5 b _ b'' k' rfl e2⟩
   have hgd':GdT T:=fun y hy=>i5 y (by simp[hy])
   have hnt':NtT g T:=fun y hy=>i6 y (by simp[hy])
   have hov:(out=[]∧ov=.nils)∨∃b',ov=.sl b' 0 out.length 1:=by
    rcases m4 with m4|⟨b',e,_⟩
    ·exact .inl m4
    ·exact .inr ⟨b',e⟩
   have hwa:IntKind.wrap .i64 ((a:Int)+1)=((a+1:Nat):Int):=by rw[wrap64 (by omega) (by omega)];rfl
   have hmin:(if (w.length:Int)<((a+1:Nat):Int) then (w.length:Int) else ((a+1:Nat):Int))=((min (a+1) w.length:Nat):Int):=by
    split<;>omega
   rw[List.length_cons] at i9;rw[muT,List.length_cons] at i2;refine W.block ?_;cases hx:x.1.non
   ·refine W.rseq (k:=5) rfl fun K hK=>?_;simp only[go_sem,hx,zR3];refine hK _ _ _ ?_;clear hK K;refine W.condT (by simp only[go_sem]) ?_;refine W.draw (k:=15) rfl ?_;simp only[go_sem,i10,zR3,lR,lR',List.length_map,hwa,hmin];refine⟨by kernel_rfl, ?_⟩
    refine⟨muT T out,by rw[i1,muT,muT,List.length_cons];omega,T,min (a+1) w.length,out,.sl b 0 T.length 3,ov,k,rfl,by rw[muT];omega,by rw[←i3,run_term hx], ?_,hgd',hnt',Nat.min_le_right _ _,i8,by omega⟩;exact mk _ _ _ (by omega) (by simp only[go_sem];rfl) (fun y q1 q2=>by simp only[go_sem,q2,show ∀j,¬y=n2+j from fun j=>by omega])
   ·obtain⟨hx1,hx2⟩:=i6 x (by simp) hx;obtain⟨ξ,hξ⟩:∃ξ:Nat,x.1.n=ξ:=⟨x.1.n.toNat,by omega⟩
    have hrl:ξ<(ranksL g true).length:=by
     have:=(ranks_fin (terms:=true) hG.right).1;omega
    have hcd:∀c∈candL g w kind a (ξ:Int),∃i:Nat,c=i∧i<g.prods.length:=fun c hc=>by
     obtain⟨i,h1,h2,_⟩:=hG.cand (by omega) (by omega) hc;exact⟨i,h1,h2⟩
    have hps:∀p∈g.prods,p.right.length<2^20∧∀s∈p.right,s.non=true→0≤s.n∧s.n<24:=fun p hp=>by
     have h6:=h5 p hp
     exact⟨by omega,fun s hs hn=>by
      have:=h6.2.2 s hs;rw[if_pos hn] at this
      omega⟩
    refine W.rseq (k:=5) rfl fun K hK=>?_;simp only[go_sem,hx,zR3];refine hK _ _ _ ?_;clear hK K;refine W.condF (by simp only[go_sem]) ?_
    rcases hov with ⟨ho0,rfl⟩|⟨b',rfl⟩
    ·have hol:out.length=0:=by rw[ho0];rfl
     by_cases ho:out.length=2000
     ·omega
     ·refine W.rseq (k:=7) rfl fun K hK=>?_;simp only[go_sem,i10,zR3,hol,Int.natCast_zero,show decide ((0:Int)=2000)=false from rfl];refine hK _ _ _ ?_;clear hK K;refine W.condF (by simp only[go_sem]) ?_;refine W.rseq (k:=7) rfl fun K hK=>?_;simp only[go_sem,i10,zR3,hξ]
      refine VCall.heap (fz225 bR g w rows kind _ _ T a out _ _ (mk _ _ a (by omega) (by simp only[go_sem];rfl) (fun y q1 q2=>by simp only[go_sem,q2,show ∀j,¬y=n2+j from fun j=>by omega])) (by simp) ξ hg (by omega) hw hr hrw hT40 hgd' i7 (by omega) hps (hG.of _ (by omega) (by omega)) hrl hcd) fun r1 h3 n3 hch=>?_
      cases htr:tryL g w rows kind T a (candL g w kind a (ξ:Int)) with
      |none=>
       rw[htr] at hch;have hch:r1=.bool false:=hch;subst hch;simp only[go_sem];refine hK _ _ _ ?_
       first|clear hK K|clear hK|skip
       refine W.condT (by simp only[go_sem]) ?_;refine W.rseq (k:=1) rfl fun K hK=>?_;simp only[go_sem];refine hK _ _ _ ?_;clear hK K;refine W.ret ?_;simp only[go_sem]
       rw[run_none hx ho (by rw[hξ];exact htr)] at i3;rw[←i3];exact⟨rfl,fun e=>by cases e⟩
      |some cL=>
       obtain⟨c,L⟩:=cL;rw[htr] at hch;obtain⟨rfl,tv',ov',hM⟩:=hch;simp only[go_sem];refine hK _ _ _ ?_
       first|clear hK K|clear hK|skip
       refine W.condF (by simp only[go_sem]) ?_;refine W.skip ?_;simp only[go_sem];rw[run_some hx ho (by rw[hξ];exact htr)] at i3;obtain⟨hc1,hc2,hc3⟩:=try_some htr;obtain⟨i,rfl,hi,p,hp,hpl⟩:=hG.cand (by omega) (by omega) hc1;have hro:rightOf g (i:Int)=p.right:=by rw[rightOf,Int.toNat_natCast,hp];rfl
       rw[hro] at hc2;have hpm:=h5 p (List.mem_of_getElem? hp);have hps':=hps p (List.mem_of_getElem? hp);have hLl:L.length=p.right.length+T.length:=by rw[hc2,lay_len]
       refine⟨muT L (out++[(i:Int)]), ?_,L,a,out++[(i:Int)],tv',ov',k,rfl, ?_,i3,hM, ?_, ?_,i7, ?_, ?_⟩
       ·rw[i1,muT,muT,List.length_append,List.length_singleton,List.length_cons,hLl];have:=hpm.2.1;omega
       ·rw[muT,List.length_append,List.length_singleton,hLl];have:=hpm.2.1;omega
       ·rw[hc2];exact hgd'.lay hr _ hps'.2
       ·rw[hc2]
        exact hnt'.lay _ fun s hs hn=>by
         have:=hpm.2.2 s hs;rw[if_pos hn] at this;exact this
       ·rw[List.length_append,List.length_singleton];omega
       ·refine⟨?_,i10⟩;rw[List.length_append,List.length_singleton,hLl];have h8:=hpm.2.1;omega
    ·have hdummy:True:=trivial;by_cases ho:out.length=2000
     ·refine W.rseq (k:=7) rfl fun K hK=>?_;simp only[go_sem,i10,zR3,List.length_nil,decide_eq_true (show(out.length:Int)=2000 by omega)];refine hK _ _ _ ?_;clear hK K;refine W.condT (by simp only[go_sem]) ?_;refine W.rseq (k:=1) rfl fun K hK=>?_;simp only[go_sem];refine hK _ _ _ ?_;clear hK K;refine W.ret ?_;simp only[go_sem]
      rw[run_big hx ho] at i3;rw[←i3];exact⟨rfl,fun e=>by cases e⟩
     ·refine W.rseq (k:=7) rfl fun K hK=>?_;simp only[go_sem,i10,zR3,List.length_nil,decide_eq_false (show ¬(out.length:Int)=2000 by omega)];refine hK _ _ _ ?_;clear hK K;refine W.condF (by simp only[go_sem]) ?_;refine W.rseq (k:=7) rfl fun K hK=>?_;simp only[go_sem,i10,zR3,hξ]
      refine VCall.heap (fz225 bR g w rows kind _ _ T a out _ _ (mk _ _ a (by omega) (by simp only[go_sem];rfl) (fun y q1 q2=>by simp only[go_sem,q2,show ∀j,¬y=n2+j from fun j=>by omega])) (by simp) ξ hg (by omega) hw hr hrw hT40 hgd' i7 (by omega) hps (hG.of _ (by omega) (by omega)) hrl hcd) fun r1 h3 n3 hch=>?_
      cases htr:tryL g w rows kind T a (candL g w kind a (ξ:Int)) with
      |none=>
       rw[htr] at hch;have hch:r1=.bool false:=hch;subst hch;simp only[go_sem];refine hK _ _ _ ?_
       first|clear hK K|clear hK|skip
       refine W.condT (by simp only[go_sem]) ?_;refine W.rseq (k:=1) rfl fun K hK=>?_;simp only[go_sem];refine hK _ _ _ ?_;clear hK K;refine W.ret ?_;simp only[go_sem]
       rw[run_none hx ho (by rw[hξ];exact htr)] at i3;rw[←i3];exact⟨rfl,fun e=>by cases e⟩
      |some cL=>
       obtain⟨c,L⟩:=cL;rw[htr] at hch;obtain⟨rfl,tv',ov',hM⟩:=hch;simp only[go_sem];refine hK _ _ _ ?_
       first|clear hK K|clear hK|skip
       refine W.condF (by simp only[go_sem]) ?_;refine W.skip ?_;simp only[go_sem];rw[run_some hx ho (by rw[hξ];exact htr)] at i3;obtain⟨hc1,hc2,hc3⟩:=try_some htr;obtain⟨i,rfl,hi,p,hp,hpl⟩:=hG.cand (by omega) (by omega) hc1;have hro:rightOf g (i:Int)=p.right:=by rw[rightOf,Int.toNat_natCast,hp];rfl
       rw[hro] at hc2;have hpm:=h5 p (List.mem_of_getElem? hp);have hps':=hps p (List.mem_of_getElem? hp);have hLl:L.length=p.right.length+T.length:=by rw[hc2,lay_len]
       refine⟨muT L (out++[(i:Int)]), ?_,L,a,out++[(i:Int)],tv',ov',k,rfl, ?_,i3,hM, ?_, ?_,i7, ?_, ?_⟩
       ·rw[i1,muT,muT,List.length_append,List.length_singleton,List.length_cons,hLl];have:=hpm.2.1;omega
       ·rw[muT,List.length_append,List.length_singleton,hLl];have:=hpm.2.1;omega
       ·rw[hc2];exact hgd'.lay hr _ hps'.2
       ·rw[hc2]
        exact hnt'.lay _ fun s hs hn=>by
         have:=hpm.2.2 s hs;rw[if_pos hn] at this;exact this
       ·rw[List.length_append,List.length_singleton];omega
       ·refine⟨?_,i10⟩;rw[List.length_append,List.length_singleton,hLl];have h8:=hpm.2.1;omega
end Go.Av
namespace Go.Av
open Go.Proofs
set_option maxRecDepth 100000
theorem run_err {g:Gr} {w:List Int} {rows:List (Nat→Nat)} {kind:Int}:∀(k:Nat) (T:List Lt) (a:Nat) (out:List Int),(runL g w rows kind k T a out).1≠0→(runL g w rows kind k T a out).2=[]
 |0,_,_,_,_=>rfl
 |_+1,[],_,_,h=>absurd rfl h
 |k+1,x::T,a,out,h=>by
  cases hx:x.1.non
  ·rw[run_term hx] at h ⊢;exact run_err k _ _ _ h
  ·by_cases ho:out.length=2000
   ·rw[run_big hx ho]
   ·cases ht:tryL g w rows kind T a (candL g w kind a x.1.n) with
    |none=>rw[run_none hx ho ht]
    |some cL=>
     obtain⟨c,L⟩:=cL;rw[run_some hx ho ht] at h ⊢;exact run_err k _ _ _ h
def goodS (g:Gr) (w:List Int) (kind:Int) (rows:List (Nat→Nat)):Nat:=aheadN w rows kind ⟨true,g.start⟩ (2^w.length)
def byL (g:Gr) (w:List Int) (kind:Int) (rows:List (Nat→Nat)):Int×List Int:=
 if (goodS g w kind rows).testBit 0=true then runL g w rows kind 18002 [(⟨true,g.start⟩,goodS g w kind rows)] 0 [] else (11,[])
theorem by_err {g:Gr} {w:List Int} {kind:Int} {rows:List (Nat→Nat)} (h:(byL g w kind rows).1≠0):(byL g w kind rows).2=[]:=by
 unfold byL at h ⊢;split
 ·rename_i hb
  rw[if_pos hb] at h;exact run_err _ _ _ _ h
 ·rfl
theorem LM.frzT {bR:Nat} {g:Gr} {w:List Int} {rows:List (Nat→Nat)} {kind:Int} {h:Heap} {n:Nat} {T:List Lt} {a:Nat} {out:List Int} {tv ov:AV} (m:LM bR g w rows kind h n T a out tv ov):
  rf true 6 h tv=some (.ro (T.reverse.map eTd)):=by
 obtain⟨m1,m2,m3,m4,m5⟩:=m;rcases m3 with ⟨rfl,m3⟩|⟨b,es,rfl,k2,k3,k4,k5,k6⟩
 ·rcases m3 with rfl|rfl<;>rfl
 ·have he:rfe true 5 h (T.reverse.map eTd)=some (T.reverse.map eTd):=rfe_map fun x _=>by simp[rfs,rf,eTd]
  unfold rf;simp only[k4,List.drop_zero,k6,he,Nat.zero_add,if_pos k5]
theorem frz1 {h:Heap} {a a':AV} (e:rf true 6 h a=some a'):rfs true 7 h [a]=some [a']:=by
 simp only[rfs,List.mapM_cons,e];rfl
theorem frz2 {h:Heap} {a a' b b':AV} (e:rf true 6 h a=some a') (f:rf true 6 h b=some b'):rfs true 7 h [a,b]=some [a',b']:=by
 simp only[rfs,List.mapM_cons,e,f];rfl
theorem frz3 {h:Heap} {a a' b b' c c':AV} (e:rf true 6 h a=some a') (f:rf true 6 h b=some b') (k:rf true 6 h c=some c'):rfs true 7 h [a,b,c]=some [a',b',c']:=by
 simp only[rfs,List.mapM_cons,e,f,k];rfl
set_option maxHeartbeats 16000000 in
theorem fz103h (h00:Heap) (n00:Nat) (g:Gr) (hg:g.Small) (hG:GoodG g) (w:List Int) (kind:Int) (rows:List (Nat→Nat)) (hw:rows.length=w.length+1) (hr:rows.length≤30) (hrw:RwIn rows):
  FH pg Tq 103 [.agg (eGr g),.ro (w.map eIn),.int .i64 kind,.ro (rows.map eRw)] h00 n00 fun r h n=>∃v,r=.tup [v,.int .i64 (byL g w kind rows).1]∧SlL eIn 1 h n00 n v (byL g w kind rows).2:=by
 obtain⟨⟨hn1,hn2⟩,_,⟨hs1,hs2⟩,hp60,h5⟩:=right_in hG.right;refine FH.of (N:=49) (rs:=#[.tmp 8,.tmp 9]) Tryz.func103 rfl rfl (of_decide_eq_true rfl) rfl (by decide) ?_;refine W.rseq (k:=3) rfl fun K hK=>?_;simp only[go_sem];refine hK _ _ _ ?_;clear hK K;refine W.rseq (k:=7) rfl fun K hK=>?_;simp only[go_sem];refine hK _ _ _ ?_;clear hK K;refine W.rseq (k:=5) rfl fun K hK=>?_;simp only[go_sem];refine hK _ _ _ ?_;clear hK K
 have M0:∀(h':Heap),h' (n00+8)=some (.cells [eLd g w rows kind .nils 0 .nils])→LM (n00+8) g w rows kind h' (n00+9) [] 0 [] .nils .nils:=fun h' q2=>⟨by omega,q2,.inl ⟨rfl,.inl rfl⟩,.inl ⟨rfl,rfl⟩,fun b k b' k' e=>by cases e⟩
 obtain⟨G,hGs⟩:∃G,G=goodS g w kind rows:=⟨_,rfl⟩;have hGl:G<2^32:=by rw[hGs];exact aheadN_lt hr
 refine W.dseq (k:=12) rfl fun K hK=>?_;simp only[go_sem]
 refine VCall.frzq (as':=[.rp (eLd g w rows kind (.ro []) 0 (.ro [])) 0]) 7 (frz1 (M0 _ (by simp only[go_sem];rfl)).frz) (fz169 g w rows kind _ 0 _ (by omega)) ?_;simp only[go_sem];refine VCall.frzq (as':=[.rp (eLd g w rows kind (.ro []) 0 (.ro [])) 0,.agg (eSy ⟨true,g.start⟩),.int .u32 (2^w.length:Nat)]) 7 (frz3 (M0 _ (by simp only[go_sem];rfl)).frz rfl rfl) (fz168 g w rows kind _ 0 _ ⟨true,g.start⟩ (2^w.length) hw hr hrw (Nat.pow_lt_pow_right (by decide) (by omega)) fun _=>⟨hs1,(by omega:g.start<24)⟩) ?_;simp only[go_sem];refine hK _ _ _ _ (by kernel_rfl) ?_;clear hK K;rw[show aheadN w rows kind ⟨true,g.start⟩ (2^w.length)=G from hGs.symm];have M1:∀(h':Heap) (n':Nat),n00+23<n'→h' (n00+8)=some (.cells [eLd g w rows kind (.sl (n00+23) 0 1 3) 0 .nils])→h' (n00+23)=some (.cells [eTd (⟨true,g.start⟩,G)])→LM (n00+8) g w rows kind h' n' [(⟨true,g.start⟩,G)] 0 [] (.sl (n00+23) 0 1 3) .nils:=fun h' n' q1 q2 q3=>⟨by omega,q2,.inr ⟨n00+23,_,rfl,by omega,q1,q3,Nat.le_refl _,rfl⟩,.inl ⟨rfl,rfl⟩,fun _ _ _ _ _ e=>by cases e⟩
 refine W.seq ?_;refine W.rseq (k:=7) rfl fun K hK=>?_;simp only[go_sem]
 refine VCall.frzq (as':=[.rp (eLd g w rows kind (.ro ([((⟨true,g.start⟩,G):Lt)].reverse.map eTd)) 0 (.ro [])) 0,.ro ([((⟨true,g.start⟩,G):Lt)].reverse.map eTd)]) 7 (frz2 (M1 _ (n00+24) (by omega) (by simp only[go_sem];rfl) (by simp only[go_sem];rfl)).frz (M1 _ (n00+24) (by omega) (by simp only[go_sem];rfl) (by simp only[go_sem];rfl)).frzT) (fz170 g w rows kind _ [(⟨true,g.start⟩,G)] 0 _ (by omega) (by show 1<2^40;decide) (by omega) hGl) ?_;simp only[go_sem];refine hK _ _ _ ?_
 first|clear hK K|clear hK|skip
 have hby:byL g w kind rows=if G.testBit 0=true then runL g w rows kind 18002 [(⟨true,g.start⟩,G)] 0 [] else (11,[]):=by rw[byL,←hGs]
 show W _ _ _ _ _ _ _ _;cases hb:(lastG w [((⟨true,g.start⟩,G):Lt)]).testBit 0
 ·have hb':G.testBit 0=false:=hb;refine W.condT (by simp only[go_sem,hb]) ?_;refine W.rseq (k:=2) rfl fun K hK=>?_;simp only[go_sem];refine hK _ _ _ ?_;clear hK K;refine W.ret ?_;simp only[go_sem]
  rw[hby,hb',if_neg (by decide)];exact⟨.nils,rfl,.inl ⟨rfl,rfl⟩⟩
 ·have hb':G.testBit 0=true:=hb;refine W.condF (by simp only[go_sem,hb]) ?_;refine W.skip ?_;simp only[go_sem];rw[hb',if_pos rfl] at hby
  obtain⟨R,hR⟩:∃R,R=runL g w rows kind 18002 [(⟨true,g.start⟩,G)] 0 []:=⟨_,rfl⟩;refine W.seq ?_;refine W.rseq (k:=3) rfl fun K hK=>?_;simp only[go_sem]
  refine VCall.heap (fz171 (n00+8) g w rows kind _ _ [(⟨true,g.start⟩,G)] 0 [] _ _ (M1 _ _ (by omega) (by simp only[go_sem];rfl) (by simp only[go_sem];rfl)) hg hG hw hr hrw (fun y hy=>by rw[List.mem_singleton.1 hy];exact⟨hGl,fun _=>⟨hs1,(by omega:g.start<24)⟩⟩) (fun y hy=>by rw[List.mem_singleton.1 hy];exact fun _=>⟨hs1,hs2⟩) (Nat.zero_le _) (Nat.zero_le _) (by show 1+8*2000≤2^20;decide) 18002 (by show 2000*9+1<18002;decide)) fun r1 h1 n1 ⟨c1,c2⟩=>?_
  rw[←hR] at c1 c2 hby
  subst c1;simp only[go_sem];refine hK _ _ _ ?_
  first|clear hK K|clear hK|skip
  by_cases he:R.1=0
  ·obtain⟨T',a',tv',ov',m1,m2,m3,m4,m5⟩:=c2 he;refine W.rseq (k:=2) rfl fun K hK=>?_;simp only[go_sem,decide_eq_true he];refine hK _ _ _ ?_;clear hK K;refine W.condF (by simp only[go_sem]) ?_;refine W.skip ?_;simp only[go_sem];refine W.rseq (k:=6) rfl fun K hK=>?_;simp only[go_sem,m2,eLd];refine hK _ _ _ ?_;clear hK K;refine W.ret ?_;simp only[go_sem]
   rw[hby,he];exact⟨ov',rfl,m4.next rfl (fun x _ _=>rfl) (by omega) (by omega)⟩
  ·refine W.rseq (k:=2) rfl fun K hK=>?_;simp only[go_sem,decide_eq_false he];refine hK _ _ _ ?_;clear hK K;refine W.condT (by simp only[go_sem]) ?_;refine W.rseq (k:=3) rfl fun K hK=>?_;simp only[go_sem];refine hK _ _ _ ?_;clear hK K;refine W.ret ?_;simp only[go_sem]
   have h2:R.2=[]:=by
    rw[←hby];exact by_err (by rw[hby];exact he)
   rw[hby,h2];exact⟨.nils,rfl,.inl ⟨rfl,rfl⟩⟩
theorem fz103 (g:Gr) (hg:g.Small) (hG:GoodG g) (w:List Int) (kind:Int) (rows:List (Nat→Nat)) (hw:rows.length=w.length+1) (hr:rows.length≤30) (hrw:RwIn rows):
  PF pg Tq 103 [.agg (eGr g),.ro (w.map eIn),.int .i64 kind,.ro (rows.map eRw)] (.tup [.ro ((byL g w kind rows).2.map eIn),.int .i64 (byL g w kind rows).1]):=by
 have fin:=fz103h h0 0 g hg hG w kind rows hw hr hrw;obtain⟨r,h',n',hb,v,rfl,ho⟩:=fin;refine⟨_,h',n',hb,7,fun fr=>?_⟩;have h1:rf fr 5 h' v=some (.ro ((byL g w kind rows).2.map eIn)):=ho.frz (d:=3) fun x _=>by simp[rfs,rf,eIn]
 unfold rf;simp only[rfs,List.mapM_cons,h1];rfl
end Go.Av
namespace Go.Av
open Go.Proofs
set_option maxRecDepth 100000
def largeS (g:Gr) (w:List Int):Bool:=large g||decide ((g.prods.length:Int)>20)||(decide ((w.length:Int)>8) && decide ((w.length:Int)≤24))||decide ((w.length:Int)>40)
theorem fz8 (g:Gr) (hg:g.Small) (w:List Int):PF pg Tq 8 [.agg (eGr g),.ro (w.map eIn)] (.bool (largeS g w)):=by
 unfold largeS;refine Fb ?_;refine FH.of (N:=28) (rs:=#[.tmp 4]) Tryz.func8 rfl rfl (of_decide_eq_true rfl) rfl (by decide) ?_;refine W.rseq (k:=2) rfl fun K hK=>?_;simp only[go_sem];refine hK _ _ _ ?_;clear hK K;refine W.rseq (k:=24) rfl fun K hK=>?_;simp only[go_sem];refine VCall.frz 6 (fz25 g hg) rfl ?_
 cases hl:large g
 ·by_cases c1:(g.prods.length:Int)>20
  ·simp only[go_sem,decide_eq_true c1];refine hK _ _ _ ?_
   first|clear hK K|clear hK|skip
   refine W.ret ?_;simp only[go_sem];simp[c1,hl]
  ·by_cases c2:(w.length:Int)>8
   ·by_cases c3:(w.length:Int)≤24
    ·simp only[go_sem,decide_eq_false c1,decide_eq_true c2,decide_eq_true c3];refine hK _ _ _ ?_
     first|clear hK K|clear hK|skip
     refine W.ret ?_;simp only[go_sem];simp[c2,c3,hl]
    ·simp only[go_sem,decide_eq_false c1,decide_eq_true c2,decide_eq_false c3];refine hK _ _ _ ?_
     first|clear hK K|clear hK|skip
     refine W.ret ?_;simp only[go_sem];simp[c1,c2,c3,hl]
   ·simp only[go_sem,decide_eq_false c1,decide_eq_false c2];refine hK _ _ _ ?_
    first|clear hK K|clear hK|skip
    refine W.ret ?_;simp only[go_sem];simp[c1,c2,hl]
 ·simp only[go_sem];refine hK _ _ _ ?_
  first|clear hK K|clear hK|skip
  refine W.ret ?_;simp only[go_sem];simp[hl]
theorem rows_in {g:Gr} {w:List Int} {l:List (Nat→Nat)} (h:RowsC g w l):RwIn l:=fun j i=>by
 by_cases hj:j<l.length
 ·exact(h.2 j hj).1.1 i
 ·unfold rowAt;rw[List.getD_eq_getElem?_getD,List.getElem?_eq_none (by omega)];exact(by decide:0<2^32)
def leadL (g:Gr) (w:List Int) (kind:Int) (l:List (Nat→Nat)):Int×List Int:=if l=[]∨kind<0∨kind>2 then (1,[]) else byL g w kind l
set_option maxHeartbeats 8000000 in
theorem fz41 (g:Gr) (hg:g.Small) (w:List Int) (kind:Int) (l:List (Nat→Nat)) (h74:PF pg Tq 102 [.agg (eGr g),.ro (w.map eIn)] (.ro (l.map eRw))) (hl0:fitG g w=false→l=[]) (hl1:fitG g w=true→RowsC g w l):
  PF pg Tq 41 [.agg (eGr g),.ro (w.map eIn),.int .i64 kind] (.tup [.ro ((leadL g w kind l).2.map eIn),.int .i64 (leadL g w kind l).1]):=by
 have fin:FH pg Tq 41 [.agg (eGr g),.ro (w.map eIn),.int .i64 kind] h0 0 fun r h n=>∃v,r=.tup [v,.int .i64 (leadL g w kind l).1]∧SlL eIn 1 h 0 n v (leadL g w kind l).2:=by
  refine FH.of (N:=30) (rs:=#[.tmp 6,.tmp 7]) Tryz.func41 rfl rfl (of_decide_eq_true rfl) rfl (by decide) ?_;refine W.rseq (k:=3) rfl fun K hK=>?_;simp only[go_sem];refine hK _ _ _ ?_;clear hK K;refine W.rseq (k:=4) rfl fun K hK=>?_;simp only[go_sem];refine VCall.frz 6 h74 rfl ?_;try simp only[go_sem];refine hK _ _ _ ?_;clear hK K;refine W.seq ?_
  cases hf:fitG g w with
  |false=>
   have hl:=hl0 hf;subst hl;refine W.rseq (k:=11) rfl fun K hK=>?_;simp only[go_sem,List.map_nil];refine hK _ _ _ ?_
   first|clear hK K|clear hK|skip
   refine W.condT (by simp only[go_sem]) ?_;refine W.rseq (k:=2) rfl fun K hK=>?_;simp only[go_sem];refine hK _ _ _ ?_;clear hK K;refine W.ret ?_;simp only[go_sem]
   rw[leadL,if_pos (.inl rfl)];exact⟨.nils,rfl,.inl ⟨rfl,rfl⟩⟩
  |true=>
   have hrc:=hl1 hf;have hle:¬l=[]:=fun e=>by have:=hrc.1;rw[e] at this;simp at this
   have hw:=fit_len hf;have hln:¬(l.length:Int)=0:=by have:=hrc.1;omega
   by_cases c1:kind<0
   ·refine W.rseq (k:=11) rfl fun K hK=>?_;simp only[go_sem,List.length_map,decide_eq_false hln,decide_eq_true c1];refine hK _ _ _ ?_
    first|clear hK K|clear hK|skip
    refine W.condT (by simp only[go_sem]) ?_;refine W.rseq (k:=2) rfl fun K hK=>?_;simp only[go_sem];refine hK _ _ _ ?_;clear hK K;refine W.ret ?_;simp only[go_sem]
    rw[leadL,if_pos (.inr (.inl c1))];exact⟨.nils,rfl,.inl ⟨rfl,rfl⟩⟩
   ·by_cases c2':kind>2
    ·refine W.rseq (k:=11) rfl fun K hK=>?_;simp only[go_sem,List.length_map,decide_eq_false hln,decide_eq_false c1,decide_eq_true c2'];refine hK _ _ _ ?_
     first|clear hK K|clear hK|skip
     refine W.condT (by simp only[go_sem]) ?_;refine W.rseq (k:=2) rfl fun K hK=>?_;simp only[go_sem];refine hK _ _ _ ?_;clear hK K;refine W.ret ?_;simp only[go_sem]
     rw[leadL,if_pos (.inr (.inr c2'))];exact⟨.nils,rfl,.inl ⟨rfl,rfl⟩⟩
    ·refine W.rseq (k:=11) rfl fun K hK=>?_;simp only[go_sem,List.length_map,decide_eq_false hln,decide_eq_false c1,decide_eq_false c2'];refine hK _ _ _ ?_
     first|clear hK K|clear hK|skip
     refine W.condF (by simp only[go_sem]) ?_;refine W.skip ?_;simp only[go_sem];refine W.rseq (k:=9) rfl fun K hK=>?_;simp only[go_sem]
     refine VCall.heap (fz103h _ _ g hg (fit_good hf) w kind l hrc.1 (by have:=hrc.1;omega) (rows_in hrc)) fun r1 h1 n1 ⟨v,c3,c2⟩=>?_
     subst c3;simp only[go_sem];refine hK _ _ _ ?_
     first|clear hK K|clear hK|skip
     refine W.ret ?_;simp only[go_sem];rw[leadL,if_neg (fun q=>q.elim hle fun q=>q.elim c1 c2')];exact⟨v,rfl,c2.next rfl (fun x _ _=>rfl) (by omega) (Nat.zero_le _)⟩
 obtain⟨r,h',n',hb,v,rfl,ho⟩:=fin;refine⟨_,h',n',hb,7,fun fr=>?_⟩;have h1:rf fr 5 h' v=some (.ro ((leadL g w kind l).2.map eIn)):=ho.frz (d:=3) fun x _=>by simp[rfs,rf,eIn]
 unfold rf;simp only[rfs,List.mapM_cons,h1];rfl
end Go.Av
