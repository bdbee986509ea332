/-
  Layer 12, package follow: what stands behind nonterminals. Conditions: none.
-/
import Derived.Test.YtjpkjbobcicfoaaGreatDoorOB
import Derived.Test.YtjpkjbobcicfoaaGreatDoorCC
import Derived.Test.YtjpkjbobcicfoaaGreatDoorD1
set_option linter.unusedSimpArgs false
set_option linter.unusedVariables false
namespace Go.Av
open Go.Proofs
set_option maxRecDepth 100000
attribute [go_sem] jump
def isN (n:Int) (s:Sy):Bool:=s.non && decide (s.n=n)
def stands (p:Pr) (n:Int):Bool:=p.right.any (isN n)
theorem any_none {α:Type} {q:α→Bool} {l:List α} {k:Nat} (h:∀x∈l.take k,q x=false) (hk:¬k<l.length):l.any q=false:=by
 rw[List.take_of_length_le (by omega)] at h;simpa using h
theorem take_snoc_all {α:Type} {q:α→Bool} {l:List α} {k:Nat} {x:α} (h:∀x∈l.take k,q x=false) (hx:l[k]?=some x) (hq:q x=false):∀x∈l.take (k+1),q x=false:=by
 intro y hy;rw[List.take_add_one,hx] at hy;simp at hy;rcases hy with hy|rfl
 ·exact h y hy
 ·exact hq
theorem fz160 (p:Pr) (n:Int) (hp:p.right.length<2^60):PF pg Tq 160 [.agg (ePr p),.int .i64 n] (.bool (stands p n)):=by
 refine Fb ?_;refine FH.of (N:=29) (rs:=#[.tmp 4]) Tryz.func160 rfl rfl (of_decide_eq_true rfl) rfl (by decide) ?_;refine W.rseq (k:=2) rfl fun K hK=>?_;simp only[go_sem];refine hK _ _ _ ?_;clear hK K;refine W.seq ?_;refine W.rseq (k:=1) rfl fun K hK=>?_;simp only[go_sem];refine hK _ _ _ ?_;clear hK K
 refine W.block (W.while (fun m t h n'=>∃k:Nat,m=p.right.length - k∧k≤p.right.length∧h 0=some (.cells [ePr p])∧t 1=.int .i64 n∧t 2=.ptr 0 0 0∧t 5=.int .i64 k∧∀x∈p.right.take k,isN n x=false) p.right.length
  ⟨0,by simp,by simp,by simp only[go_sem],rfl,rfl,rfl,by simp⟩ fun m t h n' ⟨k,i1,i2,i3,i4,i5,i6,i7⟩=>?_)
 refine W.seq ?_;refine W.rseq (k:=5) rfl fun K hK=>?_;simp only[go_sem,i3,i5,i6];refine hK _ _ _ ?_;clear hK K
 refine W.cond rfl (fun hc=>?_) fun hc=>?_
 ·refine W.skip ?_;simp only[go_sem];have hk:k<p.right.length:=by simp at hc;omega
  obtain⟨s,hs⟩:=get_some hk;refine W.seq (W.block ?_);refine W.rseq (k:=16) rfl fun K hK=>?_
  cases hn:s.non
  ·simp only[go_sem,i3,i5,i6,hs,hn];refine hK _ _ _ ?_;clear hK K;refine W.condF (by simp only[go_sem]) ?_;refine W.skip ?_;simp only[go_sem];refine W.region (k:=3) rfl ?_;simp only[go_sem,i6];refine⟨p.right.length - (k+1),by omega,k+1,rfl,by omega,i3,i4,i5, ?_,take_snoc_all i7 hs (by simp[isN,hn])⟩;rw[wrap64 (by omega) (by omega)];rfl
  ·simp only[go_sem,i3,i4,i5,i6,hs,hn];refine hK _ _ _ ?_;clear hK K;refine W.cond rfl (fun hc2=>?_) fun hc2=>?_
   ·refine W.rseq (k:=1) rfl fun K hK=>?_;simp only[go_sem];refine hK _ _ _ ?_;clear hK K;refine W.ret ?_;simp only[go_sem]
    have:stands p n=true:=List.any_eq_true.2 ⟨s,List.mem_of_getElem? hs,by simpa[isN,hn] using hc2⟩;rw[this]
   ·refine W.skip ?_;simp only[go_sem];refine W.region (k:=3) rfl ?_;simp only[go_sem,i6];refine⟨p.right.length - (k+1),by omega,k+1,rfl,by omega,i3,i4,i5, ?_,take_snoc_all i7 hs (by simpa[isN,hn] using hc2)⟩;rw[wrap64 (by omega) (by omega)];rfl
 ·refine W.exit ?_;simp only[go_sem];refine W.rseq (k:=1) rfl fun K hK=>?_;simp only[go_sem];refine hK _ _ _ ?_;clear hK K;refine W.ret ?_;simp only[go_sem]
  have hk:¬k<p.right.length:=by simp at hc;omega
  have:stands p n=false:=any_none i7 hk;rw[this]
end Go.Av
namespace Go.Av
open Go.Proofs
set_option maxRecDepth 100000
def eU3 (n:Nat):List AV:=[.int .u32 n]
attribute [go_sem] eU3
theorem wrapu32 {x:Int} (h1:0≤x) (h2:x<4294967296):IntKind.wrap .u32 x=x:=by
 unfold IntKind.wrap;simp only[IntKind.bits,IntKind.signed];simp;omega
theorem wrapN {y:Nat} (h:y<2^32):IntKind.wrap .u32 (y:Int)=y:=wrapu32 (by omega) (by omega)
theorem ofIntN (x:Nat):BitVec.ofInt 32 (x:Int)=BitVec.ofNat 32 x:=by
 apply BitVec.eq_of_toNat_eq;simp[BitVec.toNat_ofInt]
theorem or32 {a b:Nat} (ha:a<2^32) (hb:b<2^32):bitsOf .or .u32 (a:Int) (b:Int)=some ((a|||b:Nat):Int):=by
 show some (IntKind.wrap .u32 ((BitVec.ofInt 32 (a:Int)|||BitVec.ofInt 32 (b:Int)).toNat:Int))=_;rw[ofIntN,ofIntN,BitVec.toNat_or,BitVec.toNat_ofNat,BitVec.toNat_ofNat,Nat.mod_eq_of_lt ha,Nat.mod_eq_of_lt hb,wrapN (Nat.or_lt_two_pow ha hb)]
theorem shl32 {t:Nat} (h:t<32):IntKind.wrap .u32 (1*2^(min t 32))=((2^t:Nat):Int):=by
 have hp:2^t<2^32:=Nat.pow_lt_pow_right (by decide) h;have e:min t 32=t:=by omega
 rw[e,Int.one_mul];have e2:(2:Int)^t=((2^t:Nat):Int):=by simp
 rw[e2,wrapN hp]
end Go.Av
namespace Go.Av
open Go.Proofs
set_option maxRecDepth 100000
def again (l:Nat) (K:Fr→Heap→Nat→Prop) (Q:AEx→Fr→Heap→Nat→Prop):AEx→Fr→Heap→Nat→Prop
 | .goto l',t,h,n=>if l'=l then K t h n else False
 |e,t,h,n=>Q e t h n
attribute [go_sem] again
end Go.Av
namespace Go.Av
open Go.Proofs
end Go.Av
namespace Go.Av
open Go.Proofs
def e1 (k:Nat) (f:Nat→Bool):List (List AV):=(List.range k).map fun j=>[.bool (f j)]
def e2 (m k:Nat) (f:Nat→Nat→Bool):List (List AV):=(List.range m).map fun i=>[.ro (e1 k (f i))]
def e3 (n m k:Nat) (f:Nat→Nat→Nat→Bool):List (List AV):=(List.range n).map fun i=>[.ro (e2 m k (f i))]
def slL (k:Nat) (f:Nat→Nat) (m:Nat):List (List AV):=(List.range m).map fun i=>[.sl (f i) 0 k 1]
def T1 (h:Heap) (b k:Nat) (f:Nat→Bool):Prop:=h b=some (.cells (e1 k f))
structure T2 (h:Heap) (lo hi b:Nat) (leaf:Nat→Nat) (m k:Nat) (f:Nat→Nat→Bool):Prop where
 lob:lo≤b
 hib:b<hi
 top:h b=some (.cells (slL k leaf m))
 at':∀i,i<m→lo≤leaf i∧leaf i<hi∧leaf i≠b
 row:∀i,i<m→T1 h (leaf i) k (f i)
 inj:∀i j,i<m→j<m→leaf i=leaf j→i=j
structure T3 (h:Heap) (lo hi top:Nat) (cut mid:Nat→Nat) (leaf:Nat→Nat→Nat) (n m k:Nat) (f:Nat→Nat→Nat→Bool):Prop where
 lob:lo≤cut 0
 mono:∀i,cut i≤cut (i+1)
 hib:top<hi
 up:cut n≤top
 top:h top=some (.cells (slL m mid n))
 tab:∀i,i<n→T2 h (cut i) (cut (i+1)) (mid i) (leaf i) m k (f i)
theorem mapM_map {α β γ:Type} {f:β→Option γ} {g:α→β} {r:α→γ}:∀l:List α,(∀x∈l,f (g x)=some (r x))→(l.map g).mapM f=some (l.map r)
 |[],_=>rfl
 |x::l,h=>by
  rw[List.map_cons,List.mapM_cons,h x (by simp),mapM_map l fun y hy=>h y (by simp[hy])];rfl
theorem rfe_map {α:Type} {fr:Bool} {d:Nat} {h:Heap} {g r:α→List AV} {l:List α} (e:∀x∈l,rfs fr d h (g x)=some (r x)):rfe fr (d+1) h (l.map g)=some (l.map r):=by
 unfold rfe;exact mapM_map l e
theorem rf_sla {fr:Bool} {d:Nat} {h:Heap} {b len sz:Nat} {es es':List (List AV)} (hb:h b=some (.cells es)) (hl:len=es.length) (he:rfe fr d h es=some es'):rf fr (d+1) h (.sl b 0 len sz)=some (.ro es'):=by
 subst hl;unfold rf;have e:List.take es.length (List.drop 0 es)=es:=by rw[List.drop_zero,List.take_of_length_le (Nat.le_refl _)]
 simp only[hb,e,he];simp
end Go.Av
namespace Go.Av
open Go.Proofs
set_option maxRecDepth 100000
end Go.Av
namespace Go.Av
open Go.Proofs
set_option maxRecDepth 100000
end Go.Av
namespace Go.Av
open Go.Proofs
set_option maxRecDepth 100000
end Go.Av
namespace Go.Av
open Go.Proofs
set_option maxRecDepth 100000
end Go.Av
namespace Go.Av
open Go.Proofs
set_option maxRecDepth 100000
theorem rfe_in {fr:Bool} {d:Nat} {h:Heap} {l:List Int}:rfe fr (d+3) h (l.map eIn)=some (l.map eIn):=rfe_map fun x _=>by simp[rfs,rf,eIn]
end Go.Av
namespace Go.Av
open Go.Proofs
set_option maxRecDepth 100000
end Go.Av
namespace Go.Av
open Go.Proofs
theorem shr32 {x t:Nat} (h:t<32):(x:Int).fdiv (2^(min t 32))=((x / 2^t:Nat):Int):=by
 rw[Nat.min_eq_left (by omega)];have e:(2:Int)^t=((2^t:Nat):Int):=by simp
 rw[e,Int.fdiv_eq_ediv_of_nonneg _ (Int.natCast_nonneg _)];rfl
theorem and32 {x:Nat} (hx:x<2^32):bitsOf .and .u32 (x:Int) 1=some ((x % 2:Nat):Int):=by
 show some (IntKind.wrap .u32 ((BitVec.ofInt 32 (x:Int) &&& BitVec.ofInt 32 ((1:Nat):Int)).toNat:Int))=_;rw[ofIntN,ofIntN,BitVec.toNat_and,BitVec.toNat_ofNat,BitVec.toNat_ofNat,Nat.mod_eq_of_lt hx,Nat.mod_eq_of_lt (by decide:1<2^32),Nat.and_one_is_mod,wrapN (by omega)]
theorem bit_zero {x t:Nat}:decide (((x / 2^t % 2:Nat):Int)=0)= !x.testBit t:=by
 rw[Nat.testBit_eq_decide_div_mod_eq];have:=Nat.mod_lt (x / 2^t) (show 0<2 by decide);by_cases h:x / 2^t % 2=1
 ·simp[h]
 ·have h0:x / 2^t % 2=0:=by omega
  simp[h0]
end Go.Av
namespace Go.Av
open Go.Proofs
set_option maxRecDepth 100000
def cB (f:Nat→Bool):List AV:=(List.range 32).map fun t=> .bool (f t)
end Go.Av
namespace Go.Av
open Go.Proofs
set_option maxRecDepth 100000
end Go.Av
namespace Go.Av
open Go.Proofs
set_option maxRecDepth 100000
def SlL {α:Type} (e:α→List AV) (sz:Nat) (h:Heap) (lo n:Nat) (v:AV) (l:List α):Prop:=(l=[]∧v=.nils)∨∃b,v=.sl b 0 l.length sz∧lo≤b∧b<n∧h b=some (.cells (l.map e))
theorem SlL.next {α:Type} {e:α→List AV} {sz:Nat} {h h':Heap} {lo lo' n n':Nat} {v v':AV} {l:List α} (c:SlL e sz h lo n v l) (hv:v'=v) (hh:∀x,lo≤x→x<n→h' x=h x) (hn:n≤n') (hl:lo'≤lo):SlL e sz h' lo' n' v' l:=by
 subst hv;rcases c with c|⟨b,c1,c2,c3,c4⟩
 ·exact .inl c
 ·exact .inr ⟨b,c1,by omega,by omega,by rw[hh b c2 c3];exact c4⟩
theorem SlL.frz {α:Type} {e:α→List AV} {sz:Nat} {fr:Bool} {h:Heap} {lo n d:Nat} {v:AV} {l:List α} (c:SlL e sz h lo n v l) (he:∀x∈l,rfs fr d h (e x)=some (e x)):rf fr (d+2) h v=some (.ro (l.map e)):=by
 rcases c with ⟨rfl,rfl⟩|⟨b,rfl,_,_,c⟩
 ·simp[rf]
 ·exact rf_sla c (by simp) (rfe_map he)
theorem cut_map {α:Type} {e:α→List AV} {l:List α} {k:Nat}:((l.map e).drop k).take (l.length - k)=(l.drop k).map e:=by
 rw[←List.map_drop,List.take_of_length_le (by simp)]
theorem len_map {α:Type} {e:α→List AV} {sz:Nat} (he:∀x,(e x).length=sz) {l:List α}:(∀y∈l.map e,y.length=sz)=True:=by
 simp[he]
end Go.Av
