/-
  Texts B1, B2, B3, B4, B5, B6, B7, B8, B9, B10, B11 of this work, one behind the other. Conditions: none.
-/
import Derived.Test.YtjpkjbobcicfoaaGreatDoorD1
set_option linter.unusedSimpArgs false
set_option linter.unusedVariables false
namespace Go.Av
open Go.Proofs
set_option maxRecDepth 100000
def there (g:Gr) (s:Sy):Bool:=decide (0≤s.n) && decide (s.n<if s.non then g.nons else g.terms)
theorem fz188 (g:Gr) (s:Sy):PF pg Tq 188 [.agg (eGr g),.agg (eSy s)] (.bool (there g s)):=by
 refine Fb ?_;refine FH.of (N:=21) (rs:=#[.tmp 4]) Tryz.func188 rfl rfl (of_decide_eq_true rfl) rfl (by decide) ?_;refine W.rseq (k:=3) rfl fun K hK=>?_;simp only[go_sem];refine hK _ _ _ ?_;clear hK K;refine W.rseq (k:=3) rfl fun K hK=>?_;simp only[go_sem];refine hK _ _ _ ?_;clear hK K;refine W.seqk fun K hK=>?_
 have tail:∀t (h:Heap) n m,t 3=.ptr 1 0 0→t 5=.int .i64 m→h 1=some (.cells [eSy s])→(if s.non then g.nons else g.terms)=m→K t h n:=by
  intro t h n m e3 e5 e1 em;refine hK _ _ _ ?_;clear hK K;refine W.rseq (k:=10) rfl fun K hK=>?_
  by_cases hz:0≤s.n
  ·simp only[go_sem,e3,e5,e1,hz];refine hK _ _ _ ?_;clear hK K;refine W.ret ?_;simp only[go_sem];simp[there,hz,em]
  ·simp only[go_sem,e3,e5,e1,hz];refine hK _ _ _ ?_;clear hK K;refine W.ret ?_;simp only[go_sem];simp[there,hz]
 clear hK;refine W.rseq (k:=2) rfl fun K' hK=>?_
 simp only[go_sem];refine hK _ _ _ ?_;refine W.cond rfl (fun hc=>?_) fun hc=>?_
 ·refine W.region (k:=3) rfl ?_;simp only[go_sem];exact tail _ _ _ _ rfl rfl rfl (by simp[hc])
 ·refine W.skip ?_;simp only[go_sem];exact tail _ _ _ _ rfl rfl rfl (by simp[hc])
def idx {α:Type} (p:α→Bool) (l:List α):Int:=if l.any p then (l.findIdx p:Int) else -1
theorem fz235 (l:List Sy) (f:FuncId) (caps:List AV) (p:Sy→Bool) (hl:l.length<2^60) (hp:∀s∈l,PF pg Tq f (.agg (eSy s)::caps) (.bool (p s))) (hz:∀s,rfs true 6 h0 (.agg (eSy s)::caps)=some (.agg (eSy s)::caps)):
  PF pg Tq 235 [.ro (l.map eSy),.fn f caps] (.int .i64 (idx p l)):=by
 refine Fi ?_;refine FH.of (N:=19) (rs:=#[.tmp 4]) Tryz.func235 rfl rfl (of_decide_eq_true rfl) rfl (by decide) ?_;refine W.rseq (k:=1) rfl fun K hK=>?_;simp only[go_sem];refine hK _ _ _ ?_;clear hK K;refine W.seq ?_;refine W.rseq (k:=3) rfl fun K hK=>?_;simp only[go_sem];refine hK _ _ _ ?_;clear hK K
 refine W.block (W.while (fun m t h n=>∃k:Nat,m=l.length - k∧k≤l.length∧t 0=.ro (l.map eSy)∧t 1=.fn f caps∧t 7=.int .i64 l.length∧t 8=.int .i64 k∧∀x∈l.take k,p x=false) l.length ⟨0,by simp,by simp,rfl,rfl,rfl,rfl,by simp⟩ fun m t h n ⟨k,i1,i2,i3,i4,i5,i6,i7⟩=>?_);refine W.rseq (k:=1) rfl fun K hK=>?_;simp only[go_sem,i5,i6];refine hK _ _ _ ?_;clear hK K;refine W.seq ?_
 refine W.cond rfl (fun hc=>?_) fun hc=>?_
 ·refine W.skip ?_;simp only[go_sem];have hk:k<l.length:=by simp at hc;omega
  obtain⟨x,hx⟩:=get_some hk;have hm:x∈l:=List.mem_of_getElem? hx;refine W.seq (W.block ?_);refine W.rseq (k:=2) rfl fun K hK=>?_;simp only[go_sem,i6];refine hK _ _ _ ?_;clear hK K;refine W.rseq (k:=6) rfl fun K hK=>?_;simp only[go_sem,i3,i4,hx];refine VCall.frz 6 (hp x hm) (hz x) ?_;try simp only[go_sem,i3,i4,hx];refine hK _ _ _ ?_;clear hK K
  refine W.cond rfl (fun hc2=>?_) fun hc2=>?_
  ·refine W.rseq (k:=2) rfl fun K hK=>?_;simp only[go_sem];refine hK _ _ _ ?_;clear hK K;refine W.ret ?_;simp only[go_sem]
   have:idx p l=k:=by
    have h1:l.any p=true:=List.any_eq_true.2 ⟨x,hm,hc2⟩
    have h2:l.findIdx p=k:=by
     rw[List.findIdx_eq hk];refine⟨by rw[(List.getElem_eq_iff hk).2 hx];exact hc2,fun j hj=>?_⟩;exact i7 _ (List.mem_take_iff_getElem.2 ⟨j,by omega,rfl⟩)
    simp[idx,h1,h2]
   simp[this]
  ·refine W.skip ?_;simp only[go_sem];refine W.region (k:=2) rfl ?_;simp only[go_sem,i6];refine⟨l.length - (k+1),by omega,k+1,rfl,by omega,i3,i4,i5, ?_, ?_⟩
   ·rw[wrap64 (by omega) (by omega)];rfl
   ·intro y hy;rw[List.take_add_one,hx] at hy;simp at hy;rcases hy with hy|rfl
    ·exact i7 y hy
    ·exact hc2
 ·refine W.exit ?_;simp only[go_sem];refine W.rseq (k:=1) rfl fun K hK=>?_;simp only[go_sem];refine hK _ _ _ ?_;clear hK K;refine W.ret ?_;simp only[go_sem]
  have hk:¬k<l.length:=by simp at hc;omega
  rw[List.take_of_length_le (by omega)] at i7;have h1:l.any p=false:=by simpa using i7
  simp[idx,h1]
theorem fz189 (l:List Sy) (f:FuncId) (caps:List AV) (p:Sy→Bool) (hl:l.length<2^60) (hp:∀s∈l,PF pg Tq f (.agg (eSy s)::caps) (.bool (p s))) (hz:∀s,rfs true 6 h0 (.agg (eSy s)::caps)=some (.agg (eSy s)::caps)) (hz2:rfs true 6 h0 [.ro (l.map eSy),.fn f caps]=some [.ro (l.map eSy),.fn f caps]):
  PF pg Tq 189 [.ro (l.map eSy),.fn f caps] (.bool (l.any p)):=by
 refine Fb ?_;refine FH.of (N:=9) (rs:=#[.tmp 4]) Tryz.func189 rfl rfl (of_decide_eq_true rfl) rfl (by decide) ?_;refine W.rseq (k:=1) rfl fun K hK=>?_;simp only[go_sem];refine hK _ _ _ ?_;clear hK K;refine W.rseq (k:=5) rfl fun K hK=>?_;simp only[go_sem];refine VCall.frz 6 (fz235 l f caps p hl hp hz) hz2 ?_;try simp only[go_sem];refine hK _ _ _ ?_;clear hK K;refine W.ret ?_;simp only[go_sem]
 by_cases h1:l.any p<;>simp[idx,h1]
theorem fz187 (l:List Pr) (f:FuncId) (caps:List AV) (p:Pr→Bool) (hl:l.length<2^60) (hp:∀s∈l,PF pg Tq f (.agg (ePr s)::caps) (.bool (p s))) (hz:∀s,rfs true 6 h0 (.agg (ePr s)::caps)=some (.agg (ePr s)::caps)):
  PF pg Tq 187 [.ro (l.map ePr),.fn f caps] (.int .i64 (idx p l)):=by
 refine Fi ?_;refine FH.of (N:=19) (rs:=#[.tmp 4]) Tryz.func187 rfl rfl (of_decide_eq_true rfl) rfl (by decide) ?_;refine W.rseq (k:=1) rfl fun K hK=>?_;simp only[go_sem];refine hK _ _ _ ?_;clear hK K;refine W.seq ?_;refine W.rseq (k:=3) rfl fun K hK=>?_;simp only[go_sem];refine hK _ _ _ ?_;clear hK K
 refine W.block (W.while (fun m t h n=>∃k:Nat,m=l.length - k∧k≤l.length∧t 0=.ro (l.map ePr)∧t 1=.fn f caps∧t 7=.int .i64 l.length∧t 8=.int .i64 k∧∀x∈l.take k,p x=false) l.length ⟨0,by simp,by simp,rfl,rfl,rfl,rfl,by simp⟩ fun m t h n ⟨k,i1,i2,i3,i4,i5,i6,i7⟩=>?_);refine W.rseq (k:=1) rfl fun K hK=>?_;simp only[go_sem,i5,i6];refine hK _ _ _ ?_;clear hK K;refine W.seq ?_
 refine W.cond rfl (fun hc=>?_) fun hc=>?_
 ·refine W.skip ?_;simp only[go_sem];have hk:k<l.length:=by simp at hc;omega
  obtain⟨x,hx⟩:=get_some hk;have hm:x∈l:=List.mem_of_getElem? hx;refine W.seq (W.block ?_);refine W.rseq (k:=2) rfl fun K hK=>?_;simp only[go_sem,i6];refine hK _ _ _ ?_;clear hK K;refine W.rseq (k:=6) rfl fun K hK=>?_;simp only[go_sem,i3,i4,hx];refine VCall.frz 6 (hp x hm) (hz x) ?_;try simp only[go_sem,i3,i4,hx];refine hK _ _ _ ?_;clear hK K
  refine W.cond rfl (fun hc2=>?_) fun hc2=>?_
  ·refine W.rseq (k:=2) rfl fun K hK=>?_;simp only[go_sem];refine hK _ _ _ ?_;clear hK K;refine W.ret ?_;simp only[go_sem]
   have:idx p l=k:=by
    have h1:l.any p=true:=List.any_eq_true.2 ⟨x,hm,hc2⟩
    have h2:l.findIdx p=k:=by
     rw[List.findIdx_eq hk];refine⟨by rw[(List.getElem_eq_iff hk).2 hx];exact hc2,fun j hj=>?_⟩;exact i7 _ (List.mem_take_iff_getElem.2 ⟨j,by omega,rfl⟩)
    simp[idx,h1,h2]
   simp[this]
  ·refine W.skip ?_;simp only[go_sem];refine W.region (k:=2) rfl ?_;simp only[go_sem,i6];refine⟨l.length - (k+1),by omega,k+1,rfl,by omega,i3,i4,i5, ?_, ?_⟩
   ·rw[wrap64 (by omega) (by omega)];rfl
   ·intro y hy;rw[List.take_add_one,hx] at hy;simp at hy;rcases hy with hy|rfl
    ·exact i7 y hy
    ·exact hc2
 ·refine W.exit ?_;simp only[go_sem];refine W.rseq (k:=1) rfl fun K hK=>?_;simp only[go_sem];refine hK _ _ _ ?_;clear hK K;refine W.ret ?_;simp only[go_sem]
  have hk:¬k<l.length:=by simp at hc;omega
  rw[List.take_of_length_le (by omega)] at i7;have h1:l.any p=false:=by simpa using i7
  simp[idx,h1]
theorem fz125 (l:List Pr) (f:FuncId) (caps:List AV) (p:Pr→Bool) (hl:l.length<2^60) (hp:∀s∈l,PF pg Tq f (.agg (ePr s)::caps) (.bool (p s))) (hz:∀s,rfs true 6 h0 (.agg (ePr s)::caps)=some (.agg (ePr s)::caps)) (hz2:rfs true 6 h0 [.ro (l.map ePr),.fn f caps]=some [.ro (l.map ePr),.fn f caps]):
  PF pg Tq 125 [.ro (l.map ePr),.fn f caps] (.bool (l.any p)):=by
 refine Fb ?_;refine FH.of (N:=9) (rs:=#[.tmp 4]) Tryz.func125 rfl rfl (of_decide_eq_true rfl) rfl (by decide) ?_;refine W.rseq (k:=1) rfl fun K hK=>?_;simp only[go_sem];refine hK _ _ _ ?_;clear hK K;refine W.rseq (k:=5) rfl fun K hK=>?_;simp only[go_sem];refine VCall.frz 6 (fz187 l f caps p hl hp hz) hz2 ?_;try simp only[go_sem];refine hK _ _ _ ?_;clear hK K;refine W.ret ?_;simp only[go_sem]
 by_cases h1:l.any p<;>simp[idx,h1]
theorem fz190 (g:Gr) (s:Sy):PF pg Tq 190 [.agg (eSy s),.rp (eGr g) 0] (.bool (!there g s)):=by
 refine Fb ?_;refine FH.of (N:=8) (rs:=#[.tmp 3]) Tryz.func190 rfl rfl (of_decide_eq_true rfl) rfl (by decide) ?_;refine W.rseq (k:=2) rfl fun K hK=>?_;simp only[go_sem];refine hK _ _ _ ?_;clear hK K;refine W.rseq (k:=5) rfl fun K hK=>?_;simp only[go_sem];refine VCall.frz 6 (fz188 g s) rfl ?_;try simp only[go_sem];refine hK _ _ _ ?_;clear hK K;refine W.ret ?_;simp only[go_sem]
def fitsP (g:Gr) (p:Pr):Bool:=there g ⟨true,p.left⟩ && decide (p.right.length≤8) && !(p.right.any fun s=> !there g s)
theorem fz127 (g:Gr) (p:Pr) (hp:p.right.length<2^60):PF pg Tq 127 [.agg (eGr g),.agg (ePr p)] (.bool (fitsP g p)):=by
 refine Fb ?_;refine FH.of (N:=23) (rs:=#[.tmp 4]) Tryz.func127 rfl rfl (of_decide_eq_true rfl) rfl (by decide) ?_;refine W.rseq (k:=3) rfl fun K hK=>?_;simp only[go_sem];refine hK _ _ _ ?_;clear hK K;refine W.rseq (k:=19) rfl fun K hK=>?_;simp only[go_sem];refine VCall.frz 6 (fz188 g ⟨true,p.left⟩) rfl ?_
 cases h1:there g ⟨true,p.left⟩
 ·simp only[go_sem];refine hK _ _ _ ?_;clear hK K;refine W.ret ?_;simp only[go_sem];simp[fitsP,h1]
 by_cases h2:p.right.length≤8
 ·simp only[go_sem,show((p.right.length:Int)≤8) by omega];refine VCall.frzq 6 rfl (fz189 p.right 190 [.rp (eGr g) 0] (fun s=> !there g s) hp (fun s _=>fz190 g s) (fun _=>rfl) rfl) ?_;simp only[go_sem];refine hK _ _ _ ?_;clear hK K;refine W.ret ?_;simp only[go_sem];simp[fitsP,h1,h2]
 ·simp only[go_sem,show ¬((p.right.length:Int)≤8) by omega];refine hK _ _ _ ?_;clear hK K;refine W.ret ?_;simp only[go_sem];simp[fitsP,h1,h2]
theorem fz126 (g:Gr) (p:Pr) (hp:p.right.length<2^60):PF pg Tq 126 [.agg (ePr p),.rp (eGr g) 0] (.bool (!fitsP g p)):=by
 refine Fb ?_;refine FH.of (N:=8) (rs:=#[.tmp 3]) Tryz.func126 rfl rfl (of_decide_eq_true rfl) rfl (by decide) ?_;refine W.rseq (k:=2) rfl fun K hK=>?_;simp only[go_sem];refine hK _ _ _ ?_;clear hK K;refine W.rseq (k:=5) rfl fun K hK=>?_;simp only[go_sem];refine VCall.frz 6 (fz127 g p hp) rfl ?_;try simp only[go_sem];refine hK _ _ _ ?_;clear hK K;refine W.ret ?_;simp only[go_sem]
end Go.Av
namespace Go.Av
open Go.Proofs
set_option maxRecDepth 100000
def bad (g:Gr):Bool:=decide (g.terms<0)||decide (16<g.terms)||decide (g.nons<1)||decide (24<g.nons)||decide (g.start<0)||decide (g.nons≤g.start)||decide (60<(g.prods.length:Int))
def right (g:Gr):Bool:= !bad g && g.prods.all (fitsP g)
theorem fz57 (g:Gr) (hg:g.Small):PF pg Tq 57 [.agg (eGr g)] (.bool (right g)):=by
 refine Fb ?_;refine FH.of (N:=33) (rs:=#[.tmp 2]) Tryz.func57 rfl rfl (of_decide_eq_true rfl) rfl (by decide) ?_;refine W.rseq (k:=2) rfl fun K hK=>?_;simp only[go_sem];refine hK _ _ _ ?_;clear hK K;refine W.seqk fun K hK=>?_
 have tail:∀t (h:Heap) n,t 1=.ptr 0 0 0→h 0=some (.cells [eGr g])→bad g=false→K t h n:=by
  intro t h n e1 e0 hb;refine hK _ _ _ ?_;clear hK K;refine W.rseq (k:=6) rfl fun K hK=>?_;simp only[go_sem,e1,e0]
  refine VCall.frzq 6 (by simp only[rfs,rf,e0,List.mapM_cons,List.mapM_nil];rfl) (fz125 g.prods 126 [.rp (eGr g) 0] (fun p=> !fitsP g p) hg.1 (fun p hp=>fz126 g p (hg.2 p hp)) (fun _=>rfl) rfl) ?_;simp only[go_sem];refine hK _ _ _ ?_;clear hK K;refine W.ret ?_;simp only[go_sem];simp[right,hb,List.any_eq_not_all_not]
 clear hK;refine W.block (W.seqk fun K2 hK=>?_)
 have mid:∀t (h:Heap) n b,t 1=.ptr 0 0 0→t 3=.bool b→h 0=some (.cells [eGr g])→b=bad g→K2 t h n:=by
  intro t h n b e1 e3 e0 hb;refine hK _ _ _ ?_;refine W.cond (r:=b) (by simp only[go_sem,e3]) (fun hc=>?_) fun hc=>?_
  ·refine W.rseq (k:=1) rfl fun K hK=>?_;simp only[go_sem];refine hK _ _ _ ?_;clear hK K;refine W.ret ?_;simp only[go_sem]
   simp[right,←hb,hc]
  ·refine W.skip ?_;simp only[go_sem];exact tail _ _ _ e1 e0 (by rw[←hb,hc])
 clear hK tail;refine W.rseq (k:=4) rfl fun K hK=>?_;simp only[go_sem];refine hK _ _ _ ?_;clear hK K
 refine W.cond rfl (fun hc=>?_) fun hc=>?_
 ·refine W.skip ?_;simp only[go_sem];exact mid _ _ _ _ rfl rfl rfl (by rw[hc];simp at hc;simp[bad,hc])
 have c1:=hc;refine W.rseq (k:=4) rfl fun K hK=>?_;simp only[go_sem];refine hK _ _ _ ?_;clear hK K
 refine W.cond rfl (fun hc=>?_) fun hc=>?_
 ·refine W.skip ?_;simp only[go_sem];exact mid _ _ _ _ rfl rfl rfl (by rw[hc];simp at hc;simp[bad,hc])
 have c2:=hc;refine W.rseq (k:=4) rfl fun K hK=>?_;simp only[go_sem];refine hK _ _ _ ?_;clear hK K
 refine W.cond rfl (fun hc=>?_) fun hc=>?_
 ·refine W.skip ?_;simp only[go_sem];exact mid _ _ _ _ rfl rfl rfl (by rw[hc];simp at hc;simp[bad,hc])
 have c3:=hc;refine W.rseq (k:=4) rfl fun K hK=>?_;simp only[go_sem];refine hK _ _ _ ?_;clear hK K
 refine W.cond rfl (fun hc=>?_) fun hc=>?_
 ·refine W.skip ?_;simp only[go_sem];exact mid _ _ _ _ rfl rfl rfl (by rw[hc];simp at hc;simp[bad,hc])
 have c4:=hc;refine W.rseq (k:=4) rfl fun K hK=>?_;simp only[go_sem];refine hK _ _ _ ?_;clear hK K
 refine W.cond rfl (fun hc=>?_) fun hc=>?_
 ·refine W.skip ?_;simp only[go_sem];exact mid _ _ _ _ rfl rfl rfl (by rw[hc];simp at hc;simp[bad,hc])
 have c5:=hc;refine W.rseq (k:=6) rfl fun K hK=>?_;simp only[go_sem];refine hK _ _ _ ?_;clear hK K
 refine W.cond rfl (fun hc=>?_) fun hc=>?_
 ·refine W.skip ?_;simp only[go_sem];exact mid _ _ _ _ rfl rfl rfl (by rw[hc];simp at hc;simp[bad,hc])
 have c6:=hc;refine W.region (k:=5) rfl ?_;simp only[go_sem];exact mid _ _ _ _ rfl rfl rfl (by rw[bad,c1,c2,c3,c4,c5,c6];rfl)
end Go.Av
namespace Go.Av
open Go.Proofs
set_option maxRecDepth 100000
theorem right_false {g:Gr} {p:Pr} (hp:p∈g.prods) (h:fitsP g p=false):right g=false:=by
 have:g.prods.all (fitsP g)=false:=by
  rw[List.all_eq_false];exact⟨p,hp,by simp[h]⟩
 simp[right,this]
theorem fz24 (g:Gr) (hg:g.Small):PF pg Tq 24 [.agg (eGr g)] (.bool (right g)):=by
 have hg1:g.prods.length<2^60:=hg.1;refine Fb ?_;refine FH.of (N:=109) (rs:=#[.tmp 2]) Tryz.func24 rfl rfl (of_decide_eq_true rfl) rfl (by decide) ?_;refine W.rseq (k:=2) rfl fun K hK=>?_;simp only[go_sem];refine hK _ _ _ ?_;clear hK K;refine W.seq ?_;refine W.rseq (k:=36) rfl fun K hK=>?_
 have mid:∀t (h:Heap) n b,t 42=.bool b→b=bad g→t 1=.ptr 0 0 0→h 0=some (.cells [eGr g])→K t h n:=by
  intro t h n b e42 hb e1 e0;refine hK _ _ _ ?_;clear hK K;refine W.cond (r:=b) (by simp only[go_sem,e42]) (fun hc=>?_) fun hc=>?_
  ·refine W.rseq (k:=1) rfl fun K hK=>?_;simp only[go_sem];refine hK _ _ _ ?_;clear hK K;refine W.ret ?_;simp only[go_sem]
   simp[right,←hb,hc]
  refine W.skip ?_;simp only[go_sem];have hbad:bad g=false:=by rw[←hb,hc]
  clear hc e42 hb b;refine W.seq ?_;refine W.rseq (k:=1) rfl fun K hK=>?_;simp only[go_sem];refine hK _ _ _ ?_;clear hK K
  refine W.block (W.while (fun m t h n=>∃k:Nat,m=g.prods.length - k∧k≤g.prods.length∧t 1=.ptr 0 0 0∧t 3=.int .i64 k∧h 0=some (.cells [eGr g])∧∀x∈g.prods.take k,fitsP g x=true) g.prods.length ⟨0,by simp,by simp,e1,rfl,e0,by simp⟩ fun m t h n ⟨k,i1,i2,i3,i4,i5,i6⟩=>?_);clear e1 e0;refine W.seq ?_;refine W.rseq (k:=5) rfl fun K hK=>?_;simp only[go_sem,i3,i4,i5];refine hK _ _ _ ?_;clear hK K
  refine W.cond rfl (fun hc=>?_) fun hc=>?_
  ·refine W.skip ?_;simp only[go_sem];have hk:k<g.prods.length:=by simp at hc;omega
   obtain⟨p,hp⟩:=get_some hk;have hm:p∈g.prods:=List.mem_of_getElem? hp;have hr:=hg.2 p hm
   have hlast:fitsP g p=true→∀x∈g.prods.take (k+1),fitsP g x=true:=by
    intro h1 y hy;rw[List.take_add_one,hp] at hy;simp at hy;rcases hy with hy|rfl
    ·exact i6 y hy
    ·exact h1
   refine W.seq (W.block ?_);refine W.rseq (k:=7) rfl fun K hK=>?_;simp only[go_sem,i3,i4,i5,hp];refine hK _ _ _ ?_;clear hK K;refine W.seq ?_;refine W.rseq (k:=16) rfl fun K hK=>?_
   have mid2:∀t (h:Heap) n' b bn,t 70=.bool b→b=(decide (p.left<0)||decide (g.nons≤p.left)||decide (8<(p.right.length:Int)))→t 1=.ptr 0 0 0→t 3=.int .i64 k→t 4=.ptr bn 0 0→h 0=some (.cells [eGr g])→h bn=some (.cells [ePr p])→0<bn→bn<n'→K t h n':=by
    intro t h n' b bn e70 hb e1 e3 e4 e0 ebn b0 bn';refine hK _ _ _ ?_;clear hK K;refine W.cond (r:=b) (by simp only[go_sem,e70]) (fun hc=>?_) fun hc=>?_
    ·refine W.rseq (k:=1) rfl fun K hK=>?_;simp only[go_sem];refine hK _ _ _ ?_;clear hK K;refine W.ret ?_;simp only[go_sem]
     rw[right_false hm];rw[hc] at hb;simp[fitsP,there];simp at hb;omega
    refine W.skip ?_;simp only[go_sem];rw[hc] at hb;have hb':(0≤p.left∧p.left<g.nons)∧p.right.length≤8:=by simp at hb;omega
    refine W.rseq (k:=1) rfl fun K hK=>?_;simp only[go_sem];refine hK _ _ _ ?_;clear hK K
    refine W.block (W.while (fun m t h n=>∃j:Nat,m=p.right.length - j∧j≤p.right.length∧bn<n∧t 1=.ptr 0 0 0∧t 3=.int .i64 k∧t 4=.ptr bn 0 0∧t 5=.int .i64 j∧h 0=some (.cells [eGr g])∧h bn=some (.cells [ePr p])∧∀x∈p.right.take j,there g x=true) p.right.length ⟨0,by simp,by simp,by omega,e1,e3,e4,rfl,e0,ebn,by simp⟩ fun m2 t h n ⟨j,j1,j2,j3,j4,j5,j6,j7,j8,j9,j10⟩=>?_);have z1:∀i,¬(0=n+i):=fun i=>by omega
    have z2:∀i,¬(bn=n+i):=fun i=>by omega
    refine W.seq ?_;refine W.rseq (k:=5) rfl fun K hK=>?_;simp only[go_sem,j4,j5,j6,j7,j8,j9];refine hK _ _ _ ?_;clear hK K
    refine W.cond rfl (fun hc=>?_) fun hc=>?_
    ·refine W.skip ?_;simp only[go_sem];have hj:j<p.right.length:=by simp at hc;omega
     obtain⟨s,hs⟩:=get_some hj;have hms:s∈p.right:=List.mem_of_getElem? hs;refine W.seq (W.block ?_);refine W.rseq (k:=7) rfl fun K hK=>?_;simp only[go_sem,j4,j5,j6,j7,j8,j9,hs,z1,z2];refine hK _ _ _ ?_;clear hK K;refine W.rseq (k:=26) rfl fun K hK=>?_
     have mid3:∀t (h:Heap) n' b,t 108=.bool b→b= !there g s→n<n'→t 1=.ptr 0 0 0→t 3=.int .i64 k→t 4=.ptr bn 0 0→t 5=.int .i64 j→h 0=some (.cells [eGr g])→h bn=some (.cells [ePr p])→K t h n':=by
      intro t h n' b e108 hb hn' e1 e3 e4 e5 e0 ebn;refine hK _ _ _ ?_;clear hK K;refine W.cond (r:=b) (by simp only[go_sem,e108]) (fun hc=>?_) fun hc=>?_
      ·refine W.rseq (k:=1) rfl fun K hK=>?_;simp only[go_sem];refine hK _ _ _ ?_;clear hK K;refine W.ret ?_;simp only[go_sem]
       rw[right_false hm];rw[hc] at hb;have hx:(p.right.any fun s=> !there g s)=true:=List.any_eq_true.2 ⟨s,hms,hb.symm⟩;simp[fitsP,hx]
      ·refine W.skip ?_;simp only[go_sem];refine W.region (k:=3) rfl ?_;simp only[go_sem,e5];rw[hc] at hb;refine⟨p.right.length - (j+1),by omega,j+1,rfl,by omega,by omega,e1,e3,e4, ?_,e0,ebn, ?_⟩
       ·rw[wrap64 (by omega) (by omega)];rfl
       ·intro y hy;rw[List.take_add_one,hs] at hy;simp at hy;rcases hy with hy|rfl
        ·exact j10 y hy
        ·simpa using hb.symm
     clear hK;simp only[go_sem,j4,j5,j6,j7,j8,j9,z1,z2];have f1:∀n',n<n+(n'+1):=fun n'=>by omega
     by_cases c1:s.n<0
     ·simp only[go_sem,c1];exact mid3 _ _ _ _ rfl (by simp[there];omega) (by omega) j4 j5 j6 j7 (by simp only[go_sem,j8,z1]) (by simp only[go_sem,j9,z2])
     simp only[go_sem,c1];cases c2:s.non
     ·simp only[go_sem,j4,j8,z1];by_cases c3:g.terms≤s.n
      ·simp only[go_sem,c3];exact mid3 _ _ _ _ rfl (by simp[there,c2];omega) (by omega) j4 j5 j6 j7 (by simp only[go_sem,j8,z1]) (by simp only[go_sem,j9,z2])
      ·simp only[go_sem,c3];exact mid3 _ _ _ _ rfl (by simp[there,c2];omega) (by omega) j4 j5 j6 j7 (by simp only[go_sem,j8,z1]) (by simp only[go_sem,j9,z2])
     ·simp only[go_sem,j4,j8,z1];by_cases c3:g.nons≤s.n
      ·simp only[go_sem,c3];exact mid3 _ _ _ _ rfl (by simp[there,c2];omega) (by omega) j4 j5 j6 j7 (by simp only[go_sem,j8,z1]) (by simp only[go_sem,j9,z2])
      ·simp only[go_sem,c3];exact mid3 _ _ _ _ rfl (by simp[there,c2];omega) (by omega) j4 j5 j6 j7 (by simp only[go_sem,j8,z1]) (by simp only[go_sem,j9,z2])
    ·refine W.exit ?_;simp only[go_sem];have hj:¬j<p.right.length:=by simp at hc;omega
     rw[List.take_of_length_le (by omega)] at j10;refine W.region (k:=3) rfl ?_;simp only[go_sem,j5];refine⟨g.prods.length - (k+1),by omega,k+1,rfl,by omega,j4, ?_,j8,hlast ?_⟩
     ·rw[wrap64 (by omega) (by omega)];rfl
     ·simp[fitsP,there,hb'];exact fun x hx=>by simpa[there] using j10 x hx
   clear hK;simp only[go_sem,i3,i4,i5];by_cases c1:p.left<0
   ·simp only[go_sem,c1];exact mid2 _ _ _ _ _ rfl (by simp[c1]) i3 i4 rfl (by simp only[go_sem,i5]) (by simp only[go_sem,i5]) (by omega) (by omega)
   simp only[go_sem,c1,i3,i5];by_cases c2:g.nons≤p.left
   ·simp only[go_sem,c2];exact mid2 _ _ _ _ _ rfl (by simp[c1,c2]) i3 i4 rfl (by simp only[go_sem,i5]) (by simp only[go_sem,i5]) (by omega) (by omega)
   simp only[go_sem,c2];exact mid2 _ _ _ _ _ rfl (by simp[c1,c2]) i3 i4 rfl (by simp only[go_sem,i5]) (by simp only[go_sem,i5]) (by omega) (by omega)
  ·refine W.exit ?_;simp only[go_sem];refine W.rseq (k:=1) rfl fun K hK=>?_;simp only[go_sem];refine hK _ _ _ ?_;clear hK K;refine W.ret ?_;simp only[go_sem]
   have hk:¬k<g.prods.length:=by simp at hc;omega
   rw[List.take_of_length_le (by omega)] at i6;simp[right,hbad];exact i6
 clear hK;simp only[go_sem];by_cases c1:g.terms<0
 ·simp only[go_sem,c1];exact mid _ _ _ _ rfl (by simp[bad,c1]) rfl rfl
 simp only[go_sem,c1];by_cases c2:16<g.terms
 ·simp only[go_sem,c2];exact mid _ _ _ _ rfl (by simp[bad,c2]) rfl rfl
 simp only[go_sem,c2];by_cases c3:g.nons<1
 ·simp only[go_sem,c3];exact mid _ _ _ _ rfl (by simp[bad,c3]) rfl rfl
 simp only[go_sem,c3];by_cases c4:24<g.nons
 ·simp only[go_sem,c4];exact mid _ _ _ _ rfl (by simp[bad,c4]) rfl rfl
 simp only[go_sem,c4];by_cases c5:g.start<0
 ·simp only[go_sem,c5];exact mid _ _ _ _ rfl (by simp[bad,c5]) rfl rfl
 simp only[go_sem,c5];by_cases c6:g.nons≤g.start
 ·simp only[go_sem,c6];exact mid _ _ _ _ rfl (by simp[bad,c6]) rfl rfl
 simp only[go_sem,c6];exact mid _ _ _ _ rfl (by simp[bad,c1,c2,c3,c4,c5,c6]) rfl rfl
end Go.Av
namespace Go.Av
open Go.Proofs
set_option maxRecDepth 100000
def rk (l:List Fc) (n:Int):Int:=(l.getD n.toNat (0,0)).1
def off (l:List Fc) (below:Int) (terms:Bool) (s:Sy):Bool:=if s.non then decide (rk l s.n<1)||decide (below≤rk l s.n) else !terms
def fits (p:Pr) (l:List Fc) (below:Int) (terms:Bool):Bool:= !(p.right.any (off l below terms))
def InL (p:Pr) (l:List Fc):Prop:=∀s∈p.right,s.non=true→0≤s.n∧s.n<l.length
theorem fc_get {l:List Fc} {n:Int} (h0:0≤n) (h1:n<l.length):∃b,l[n.toNat]?=some (rk l n,b):=by
 have hn:n.toNat<l.length:=by omega
 refine⟨(l[n.toNat]).2, ?_⟩;simp[rk,hn]
theorem fz255 (s:Sy) (l:List Fc) (below:Int) (terms:Bool) (hs:s.non=true→0≤s.n∧s.n<l.length):PF pg Tq 255 [.agg (eSy s),.rp [.bool terms] 0,.rp [.ro (l.map eFc)] 0,.rp [.int .i64 below] 0] (.bool (off l below terms s)):=by
 refine Fb ?_;refine FH.of (N:=28) (rs:=#[.tmp 5]) Tryz.func255 rfl rfl (of_decide_eq_true rfl) rfl (by decide) ?_;refine W.rseq (k:=2) rfl fun K hK=>?_;simp only[go_sem];refine hK _ _ _ ?_;clear hK K;refine W.seq ?_;refine W.rseq (k:=3) rfl fun K hK=>?_;simp only[go_sem];refine hK _ _ _ ?_;clear hK K
 cases hn:s.non
 ·refine W.condT rfl ?_;refine W.rseq (k:=3) rfl fun K hK=>?_;simp only[go_sem];refine hK _ _ _ ?_;clear hK K;refine W.ret ?_;simp only[go_sem]
  simp[off,hn]
 refine W.condF rfl ?_;refine W.skip ?_;simp only[go_sem];obtain⟨h0,h1⟩:=hs hn;obtain⟨b,hb⟩:=fc_get h0 h1;refine W.dseq (k:=18) rfl fun K hK=>?_;simp only[go_sem,h0,h1,hb]
 by_cases c1:rk l s.n<1
 ·simp only[go_sem,c1];refine hK _ _ _ _ (by kernel_rfl) ?_;clear hK K;refine W.ret ?_;simp only[go_sem];simp[off,hn,c1]
 ·simp only[go_sem,c1,h0,hb];refine hK _ _ _ _ (by kernel_rfl) ?_;clear hK K;refine W.ret ?_;simp only[go_sem];simp[off,hn,c1]
theorem fz205 (p:Pr) (l:List Fc) (below:Int) (terms:Bool) (hr:p.right.length<2^60) (hp:InL p l):PF pg Tq 205 [.agg (ePr p),.ro (l.map eFc),.int .i64 below,.bool terms] (.bool (fits p l below terms)):=by
 refine Fb ?_;refine FH.of (N:=14) (rs:=#[.tmp 8]) Tryz.func205 rfl rfl (of_decide_eq_true rfl) rfl (by decide) ?_;refine W.rseq (k:=5) rfl fun K hK=>?_;simp only[go_sem];refine hK _ _ _ ?_;clear hK K;refine W.rseq (k:=6) rfl fun K hK=>?_;simp only[go_sem]
 refine VCall.frzq 6 rfl (fz189 p.right 255 [.rp [.bool terms] 0,.rp [.ro (l.map eFc)] 0,.rp [.int .i64 below] 0] (off l below terms) hr (fun s hs=>fz255 s l below terms (hp s hs)) (fun _=>rfl) rfl) ?_
 try simp only[go_sem];refine hK _ _ _ ?_;clear hK K;refine W.ret ?_;simp only[go_sem]
 simp[fits]
def off0 (l:List Fc) (below:Int) (terms:Bool) (s:Sy):Bool:=if s.non then decide (rk l s.n=0)||decide (below≤rk l s.n) else !terms
theorem fz96 (p:Pr) (l:List Fc) (below:Int) (terms:Bool) (hr:p.right.length<2^60) (hp:InL p l):PF pg Tq 96 [.agg (ePr p),.ro (l.map eFc),.int .i64 below,.bool terms] (.bool (!(p.right.any (off0 l below terms)))):=by
 refine Fb ?_;refine FH.of (N:=53) (rs:=#[.tmp 8]) Tryz.func96 rfl rfl (of_decide_eq_true rfl) rfl (by decide) ?_;refine W.rseq (k:=2) rfl fun K hK=>?_;simp only[go_sem];refine hK _ _ _ ?_;clear hK K;refine W.seq ?_;refine W.rseq (k:=1) rfl fun K hK=>?_;simp only[go_sem];refine hK _ _ _ ?_;clear hK K
 refine W.block (W.while (fun m t h n=>∃k:Nat,m=p.right.length - k∧k≤p.right.length∧0<n∧t 1=.ro (l.map eFc)∧t 2=.int .i64 below∧t 3=.bool terms∧t 4=.ptr 0 0 0∧t 9=.int .i64 k∧h 0=some (.cells [ePr p])∧∀x∈p.right.take k,off0 l below terms x=false) p.right.length ⟨0,by simp,by simp,by omega,rfl,rfl,rfl,rfl,rfl,rfl,by simp⟩ fun m t h n ⟨k,j1,j2,j3,j4,j5,j6,j7,j8,j9,j10⟩=>?_);have z1:∀i,¬(0=n+i):=fun i=>by omega
 refine W.seq ?_;refine W.rseq (k:=5) rfl fun K hK=>?_;simp only[go_sem,j4,j5,j6,j7,j8,j9];refine hK _ _ _ ?_;clear hK K
 refine W.cond rfl (fun hc=>?_) fun hc=>?_
 ·refine W.skip ?_;simp only[go_sem];have hj:k<p.right.length:=by simp at hc;omega
  obtain⟨s,hs⟩:=get_some hj;have hms:s∈p.right:=List.mem_of_getElem? hs;refine W.seq (W.block ?_);refine W.rseq (k:=7) rfl fun K hK=>?_;simp only[go_sem,j4,j5,j6,j7,j8,j9,hs,z1];refine hK _ _ _ ?_;clear hK K;refine W.rseq (k:=30) rfl fun K hK=>?_
  have mid3:∀t (h:Heap) n' b,t 52=.bool b→b=off0 l below terms s→n<n'→t 1=.ro (l.map eFc)→t 2=.int .i64 below→t 3=.bool terms→t 4=.ptr 0 0 0→t 9=.int .i64 k→h 0=some (.cells [ePr p])→K t h n':=by
   intro t h n' b e52 hb hn' e1 e2 e3 e4 e9 e0;refine hK _ _ _ ?_;clear hK K;refine W.cond (r:=b) (by simp only[go_sem,e52]) (fun hc=>?_) fun hc=>?_
   ·refine W.rseq (k:=1) rfl fun K hK=>?_;simp only[go_sem];refine hK _ _ _ ?_;clear hK K;refine W.ret ?_;simp only[go_sem]
    rw[hc] at hb;have hx:(p.right.any (off0 l below terms))=true:=List.any_eq_true.2 ⟨s,hms,hb.symm⟩;simp[hx]
   ·refine W.skip ?_;simp only[go_sem];refine W.region (k:=3) rfl ?_;simp only[go_sem,e9];rw[hc] at hb;refine⟨p.right.length - (k+1),by omega,k+1,rfl,by omega,by omega,e1,e2,e3,e4, ?_,e0, ?_⟩
    ·rw[wrap64 (by omega) (by omega)];rfl
    ·intro y hy;rw[List.take_add_one,hs] at hy;simp at hy;rcases hy with hy|rfl
     ·exact j10 y hy
     ·exact hb.symm
  clear hK;simp only[go_sem,j4,j5,j6,j7,j8,j9,z1];cases hn:s.non
  ·simp only[go_sem,j6];cases terms
   ·simp only[go_sem];exact mid3 _ _ _ _ rfl (by simp[off0,hn]) (by omega) j4 j5 j6 j7 j8 (by simp only[go_sem,j9,z1])
   ·simp only[go_sem];exact mid3 _ _ _ _ rfl (by simp[off0,hn]) (by omega) j4 j5 j6 j7 j8 (by simp only[go_sem,j9,z1])
  ·obtain⟨h0,h1⟩:=hp s hms hn;obtain⟨b,hb⟩:=fc_get h0 h1;simp only[go_sem,j4,h0,hb];by_cases c1:rk l s.n=0
   ·simp only[go_sem,c1];exact mid3 _ _ _ _ rfl (by simp[off0,hn,c1]) (by omega) j4 j5 j6 j7 j8 (by simp only[go_sem,j9,z1])
   ·simp only[go_sem,c1,j4,j5,h0,hb];exact mid3 _ _ _ _ rfl (by simp[off0,hn,c1]) (by omega) j4 j5 j6 j7 j8 (by simp only[go_sem,j9,z1])
 ·refine W.exit ?_;simp only[go_sem];refine W.rseq (k:=1) rfl fun K hK=>?_;simp only[go_sem];refine hK _ _ _ ?_;clear hK K;refine W.ret ?_;simp only[go_sem]
  have hk:¬k<p.right.length:=by simp at hc;omega
  rw[List.take_of_length_le (by omega)] at j10;have h1:p.right.any (off0 l below terms)=false:=by rw[List.any_eq_false];exact fun x hx=>by simp[j10 x hx]
  simp[h1]
end Go.Av
namespace Go.Av
open Go.Proofs
set_option maxRecDepth 100000
def large (g:Gr):Bool:=decide (100<(g.prods.length:Int))||g.prods.any fun p=>decide (20<(p.right.length:Int))
theorem fz25 (g:Gr) (hg:g.Small):PF pg Tq 25 [.agg (eGr g)] (.bool (large g)):=by
 have hg1:g.prods.length<2^60:=hg.1;refine Fb ?_;refine FH.of (N:=21) (rs:=#[.tmp 2]) Tryz.func25 rfl rfl (of_decide_eq_true rfl) rfl (by decide) ?_;refine W.rseq (k:=2) rfl fun K hK=>?_;simp only[go_sem];refine hK _ _ _ ?_;clear hK K;refine W.seq ?_;refine W.rseq (k:=4) rfl fun K hK=>?_;simp only[go_sem];refine hK _ _ _ ?_;clear hK K
 refine W.cond rfl (fun hc=>?_) fun hc=>?_
 ·refine W.rseq (k:=1) rfl fun K hK=>?_;simp only[go_sem];refine hK _ _ _ ?_;clear hK K;refine W.ret ?_;simp only[go_sem];simp only[large,hc];rfl
 refine W.skip ?_;simp only[go_sem];have hbig:=hc;refine W.seq ?_;refine W.rseq (k:=4) rfl fun K hK=>?_;simp only[go_sem];refine hK _ _ _ ?_;clear hK K
 refine W.block (W.while (fun m t h n=>∃k:Nat,m=g.prods.length - k∧k≤g.prods.length∧t 10=.ro (g.prods.map ePr)∧t 11=.int .i64 g.prods.length∧t 12=.int .i64 k∧∀x∈g.prods.take k,decide (20<(x.right.length:Int))=false) g.prods.length ⟨0,by simp,by simp,rfl,rfl,rfl,by simp⟩ fun m t h n ⟨k,i1,i2,i3,i4,i5,i6⟩=>?_);refine W.rseq (k:=1) rfl fun K hK=>?_;simp only[go_sem,i3,i4,i5];refine hK _ _ _ ?_;clear hK K;refine W.seq ?_
 refine W.cond rfl (fun hc=>?_) fun hc=>?_
 ·refine W.skip ?_;simp only[go_sem];have hk:k<g.prods.length:=by simp at hc;omega
  obtain⟨p,hp⟩:=get_some hk;have hm:p∈g.prods:=List.mem_of_getElem? hp;refine W.seq (W.block ?_);refine W.rseq (k:=4) rfl fun K hK=>?_;simp only[go_sem,i3,i4,i5,hp];refine hK _ _ _ ?_;clear hK K;refine W.rseq (k:=4) rfl fun K hK=>?_;simp only[go_sem];refine hK _ _ _ ?_;clear hK K
  refine W.cond rfl (fun hc2=>?_) fun hc2=>?_
  ·refine W.rseq (k:=1) rfl fun K hK=>?_;simp only[go_sem];refine hK _ _ _ ?_;clear hK K;refine W.ret ?_;simp only[go_sem]
   have:(g.prods.any fun p=>decide (20<(p.right.length:Int)))=true:=List.any_eq_true.2 ⟨p,hm,hc2⟩;simp[large,this]
  ·refine W.skip ?_;simp only[go_sem];refine W.region (k:=2) rfl ?_;simp only[go_sem,i5];refine⟨g.prods.length - (k+1),by omega,k+1,rfl,by omega,i3,i4, ?_, ?_⟩
   ·rw[wrap64 (by omega) (by omega)];rfl
   ·intro y hy;rw[List.take_add_one,hp] at hy;simp only[List.mem_append,Option.mem_toList,Option.mem_def,Option.some.injEq] at hy;rcases hy with hy|rfl
    ·exact i6 y hy
    ·exact hc2
 ·refine W.exit ?_;simp only[go_sem];refine W.rseq (k:=1) rfl fun K hK=>?_;simp only[go_sem];refine hK _ _ _ ?_;clear hK K;refine W.ret ?_;simp only[go_sem]
  have hk:¬k<g.prods.length:=by simp at hc;omega
  rw[List.take_of_length_le (by omega)] at i6;have:(g.prods.any fun p=>decide (20<(p.right.length:Int)))=false:=by rw[List.any_eq_false];exact fun x hx=>by simp[i6 x hx]
  simp only[large,hbig,this];rfl
end Go.Av
namespace Go.Av
open Go.Proofs
set_option maxRecDepth 100000
def stepR (rank:Int) (terms:Bool) (s:List Fc×Bool) (x:Pr×Nat):List Fc×Bool:=
 if rk s.1 x.1.left=0∧fits x.1 s.1 rank terms=true then (s.1.set x.1.left.toNat (rank,x.2),true) else s
def round (g:Gr) (rank:Int) (terms:Bool) (l:List Fc):List Fc×Bool:=g.prods.zipIdx.foldl (stepR rank terms) (l,false)
theorem stepR_len {rank:Int} {terms:Bool} {s:List Fc×Bool} {x:Pr×Nat}:(stepR rank terms s x).1.length=s.1.length:=by
 unfold stepR;split<;>simp
theorem foldR_len {rank:Int} {terms:Bool}:∀(xs:List (Pr×Nat)) (s:List Fc×Bool),(xs.foldl (stepR rank terms) s).1.length=s.1.length
 |[],s=>rfl
 |x::xs,s=>by rw[List.foldl_cons,foldR_len xs,stepR_len]
theorem round_len {g:Gr} {rank:Int} {terms:Bool} {l:List Fc}:(round g rank terms l).1.length=l.length:=foldR_len _ _
theorem InL.of {p:Pr} {l l':List Fc} (h:InL p l) (e:l'.length=l.length):InL p l':=fun s hs hn=>by rw[e];exact h s hs hn
theorem rfs_fc {fr:Bool} {d:Nat} {h:Heap} (f:Fc):rfs fr (d+2) h (eFc f)=some (eFc f):=by
 simp[rfs,rf,eFc,List.mapM_cons]
theorem rfe_fc {fr:Bool} {d:Nat} {h:Heap}:∀l:List Fc,rfe fr (d+3) h (l.map eFc)=some (l.map eFc)
 |[]=>by simp[rfe]
 |f::l=>by
  have ih:=rfe_fc (fr:=fr) (d:=d) (h:=h) l;unfold rfe at ih ⊢;rw[List.map_cons,List.mapM_cons,rfs_fc,ih];rfl
theorem rfs_nil {fr:Bool} {d:Nat} {h:Heap}:rfs fr (d+1) h []=some []:=by simp[rfs]
theorem rfs_cons {fr:Bool} {d:Nat} {h:Heap} {a a':AV} {l l':List AV} (ha:rf fr d h a=some a') (hl:rfs fr (d+1) h l=some l'):rfs fr (d+1) h (a::l)=some (a'::l'):=by
 unfold rfs at hl ⊢;rw[List.mapM_cons,ha,hl];rfl
theorem rf_sl {fr:Bool} {d:Nat} {h:Heap} {b len:Nat} {l:List Fc} (hb:h b=some (.cells (l.map eFc))) (hl:len=l.length):rf fr (d+4) h (.sl b 0 len 2)=some (.ro (l.map eFc)):=by
 subst hl;unfold rf;have e:List.take l.length (List.drop 0 (l.map eFc))=l.map eFc:=by rw[List.drop_zero,List.take_of_length_le (by simp)]
 simp only[hb,e,rfe_fc];simp
def Gr.In (g:Gr) (l:List Fc):Prop:=∀p∈g.prods,(0≤p.left∧p.left<l.length)∧InL p l
theorem fz204 (g:Gr) (hg:g.Small) (rank:Int) (terms:Bool) (l:List Fc) (hl:g.In l) (bg bl bt bs n:Nat) (h:Heap) (d1:bs≠bg) (d2:bs≠bl) (d3:bs≠bt) (b1:bg<n) (b2:bl<n) (b3:bt<n) (b4:bs<n)
  (m1:h bg=some (.cells [eGr g])) (m2:h bl=some (.cells [[.sl bs 0 l.length 2]])) (m3:h bt=some (.cells [[.bool terms]])) (m4:h bs=some (.cells (l.map eFc))):
  FH pg Tq 204 [.int .i64 rank,.ptr bg 0 0,.ptr bl 0 0,.ptr bt 0 0] h n fun r h' n'=>r=.bool (round g rank terms l).2∧n≤n'∧h' bg=some (.cells [eGr g])∧h' bl=some (.cells [[.sl bs 0 l.length 2]])∧h' bt=some (.cells [[.bool terms]])∧
   h' bs=some (.cells ((round g rank terms l).1.map eFc)):=by
 have hg1:g.prods.length<2^60:=hg.1;refine FH.of (N:=40) (rs:=#[.tmp 5]) Tryz.func204 rfl rfl (of_decide_eq_true rfl) rfl (by decide) ?_;refine W.rseq (k:=1) rfl fun K hK=>?_;simp only[go_sem];refine hK _ _ _ ?_;clear hK K;refine W.rseq (k:=1) rfl fun K hK=>?_;simp only[go_sem];refine hK _ _ _ ?_;clear hK K;refine W.seq ?_;refine W.rseq (k:=4) rfl fun K hK=>?_;simp only[go_sem,m1];refine hK _ _ _ ?_;clear hK K
 refine W.block (W.while (fun m t h' n'=>∃k:Nat,m=g.prods.length - k∧k≤g.prods.length∧n≤n'∧t 0=.int .i64 rank∧t 2=.ptr bl 0 0∧t 3=.ptr bt 0 0∧t 6=.bool ((g.prods.zipIdx.take k).foldl (stepR rank terms) (l,false)).2∧t 10=.ro (g.prods.map ePr)∧t 11=.int .i64 g.prods.length∧t 12=.int .i64 k∧
   h' bg=some (.cells [eGr g])∧h' bl=some (.cells [[.sl bs 0 l.length 2]])∧h' bt=some (.cells [[.bool terms]])∧h' bs=some (.cells (((g.prods.zipIdx.take k).foldl (stepR rank terms) (l,false)).1.map eFc))) g.prods.length
  ⟨0,by simp,by simp,by omega,rfl,rfl,rfl,rfl,rfl,rfl,rfl,m1,m2,m3,m4⟩ fun m t h' n' ⟨k,i1,i2,i3,i4,i5,i6,i7,i8,i9,i10,i11,i12,i13,i14⟩=>?_)
 clear m1 m2 m3 m4;have z1:∀i,¬(bg=n'+i):=fun i=>by omega
 have z2:∀i,¬(bl=n'+i):=fun i=>by omega
 have z3:∀i,¬(bt=n'+i):=fun i=>by omega
 have z4:∀i,¬(bs=n'+i):=fun i=>by omega
 refine W.rseq (k:=1) rfl fun K hK=>?_;simp only[go_sem,i9,i10];refine hK _ _ _ ?_;clear hK K;refine W.seq ?_
 refine W.cond rfl (fun hc=>?_) fun hc=>?_
 ·refine W.skip ?_;simp only[go_sem];have hk:k<g.prods.length:=by simp at hc;omega
  obtain⟨p,hp⟩:=get_some hk;have hm:p∈g.prods:=List.mem_of_getElem? hp;obtain⟨⟨hl0,hl1⟩,hin⟩:=hl p hm;have hz:g.prods.zipIdx[k]?=some (p,k):=by simp[List.getElem?_zipIdx,hp]
  have hfold:(g.prods.zipIdx.take (k+1)).foldl (stepR rank terms) (l,false)=stepR rank terms ((g.prods.zipIdx.take k).foldl (stepR rank terms) (l,false)) (p,k):=by
   rw[List.take_add_one,hz,List.foldl_append];rfl
  have hlen:((g.prods.zipIdx.take k).foldl (stepR rank terms) (l,false)).1.length=l.length:=foldR_len _ _;generalize hs:(g.prods.zipIdx.take k).foldl (stepR rank terms) (l,false)=s at*;obtain⟨b,hb⟩:=fc_get hl0 (show p.left<s.1.length by rw[hlen];exact hl1);refine W.seq (W.block ?_);refine W.rseq (k:=6) rfl fun K hK=>?_;simp only[go_sem,i8,i10,hp];refine hK _ _ _ ?_;clear hK K;refine W.rseq (k:=14) rfl fun K hK=>?_
  have mid:∀t (h':Heap) n2 c,t 30=.bool c→c=(decide (rk s.1 p.left=0) && fits p s.1 rank terms)→n≤n2→t 0=.int .i64 rank→t 2=.ptr bl 0 0→t 3=.ptr bt 0 0→t 6=.bool s.2→t 7=.int .i64 k→t 8=.ptr (n'+4) 0 0→t 10=.ro (g.prods.map ePr)→t 11=.int .i64 g.prods.length→t 12=.int .i64 k→
    h' bg=some (.cells [eGr g])→h' bl=some (.cells [[.sl bs 0 l.length 2]])→h' bt=some (.cells [[.bool terms]])→h' bs=some (.cells (s.1.map eFc))→h' (n'+4)=some (.cells [ePr p])→K t h' n2:=by
   intro t h' n2 c e30 hcc hn2 e0 e2 e3 e6 e7 e8 e10 e11 e12 m1 m2 m3 m4 m5;refine hK _ _ _ ?_;clear hK K;refine W.cond (r:=c) (by simp only[go_sem,e30]) (fun hc3=>?_) fun hc3=>?_
   ·refine W.rseq (k:=8) rfl fun K hK=>?_;simp only[go_sem,e0,e2,e7,e8,m2,m4,m5,hl0,hl1,hb];refine hK _ _ _ ?_;clear hK K;refine W.region (k:=1) rfl ?_;simp only[go_sem];refine W.region (k:=2) rfl ?_;simp only[go_sem,e12]
    rw[hc3] at hcc;have hcc':rk s.1 p.left=0∧fits p s.1 rank terms=true:=by simpa using hcc.symm
    have hst:stepR rank terms s (p,k)=(s.1.set p.left.toNat (rank,k),true):=by simp[stepR,hcc']
    rw[hst] at hfold;refine⟨g.prods.length - (k+1),by omega,k+1,rfl,by omega,by omega,e0,e2,e3, ?_,e10,e11, ?_, ?_, ?_, ?_, ?_⟩
    ·rw[hfold]
    ·rw[wrap64 (by omega) (by omega)];rfl
    ·simp only[go_sem,Ne.symm d1,m1]
    ·simp only[go_sem,Ne.symm d2,m2]
    ·simp only[go_sem,Ne.symm d3,m3]
    ·simp only[go_sem,hfold,List.map_set]
   ·refine W.skip ?_;simp only[go_sem];refine W.region (k:=2) rfl ?_;simp only[go_sem,e12];rw[hc3] at hcc
    have hst:stepR rank terms s (p,k)=s:=by
     have:¬(rk s.1 p.left=0∧fits p s.1 rank terms=true):=by
      intro h;simp[h] at hcc
     simp only[stepR,this,if_false]
    rw[hst] at hfold;refine⟨g.prods.length - (k+1),by omega,k+1,rfl,by omega,by omega,e0,e2,e3, ?_,e10,e11, ?_,m1,m2,m3, ?_⟩
    ·rw[hfold];exact e6
    ·rw[wrap64 (by omega) (by omega)];rfl
    ·rw[hfold];exact m4
  clear hK;simp only[go_sem,i5,i12,z2,z4,hl0,hl1,hb,i14];by_cases c1:rk s.1 p.left=0
  ·simp only[go_sem,c1,i4,i5,i6,i12,i13,z2,z3];refine VCall.frzq 8 (rfs_cons rfl (rfs_cons (rf_sl (l:=s.1) (by simp only[go_sem,z4,i14]) hlen.symm) (rfs_cons rfl (rfs_cons rfl rfs_nil)))) (fz205 p s.1 rank terms (hg.2 p hm) (hin.of hlen)) ?_;simp only[go_sem];exact mid _ _ _ _ rfl (by simp[c1]) (by omega) i4 i5 i6 i7 rfl rfl i8 i9 i10 (by simp only[go_sem,z1,i11]) (by simp only[go_sem,z2,i12]) (by simp only[go_sem,z3,i13]) (by simp only[go_sem,z4,i14]) (by simp only[go_sem])
  ·simp only[go_sem,c1];exact mid _ _ _ _ rfl (by simp[c1]) (by omega) i4 i5 i6 i7 rfl rfl i8 i9 i10 (by simp only[go_sem,z1,i11]) (by simp only[go_sem,z2,i12]) (by simp only[go_sem,z3,i13]) (by simp only[go_sem,z4,i14]) (by simp only[go_sem])
 ·refine W.exit ?_;simp only[go_sem];refine W.rseq (k:=2) rfl fun K hK=>?_;simp only[go_sem,i7];refine hK _ _ _ ?_;clear hK K;refine W.ret ?_;simp only[go_sem]
  have hk:¬k<g.prods.length:=by simp at hc;omega
  have e:(g.prods.zipIdx.take k).foldl (stepR rank terms) (l,false)=round g rank terms l:=by rw[List.take_of_length_le (by simp;omega)];rfl
  rw[e] at i14 ⊢;exact⟨rfl,by omega,i11,i12,i13,i14⟩
end Go.Av
namespace Go.Av
open Go.Proofs
set_option maxRecDepth 100000
def loopR (g:Gr) (terms:Bool):Nat→Int→List Fc→List Fc
 |0,_,l=>l
 |f+1,rank,l=>if (round g rank terms l).2 then loopR g terms f (rank+1) (round g rank terms l).1 else (round g rank terms l).1
def ranksL (g:Gr) (terms:Bool):List Fc:=if right g then loopR g terms (g.nons.toNat+1) 1 (List.replicate g.nons.toNat (0,0)) else []
def zeros (l:List Fc):Nat:=l.countP fun f=>f.1==0
theorem zeros_set {l:List Fc} {n:Int} {f:Fc} (h0:0≤n) (h1:n<l.length) (hz:rk l n=0) (hf:f.1≠0):zeros (l.set n.toNat f)<zeros l:=by
 have hn:n.toNat<l.length:=by omega
 have hr:(l[n.toNat]).1=0:=by simpa[rk,hn] using hz
 have hpos:0<zeros l:=by
  unfold zeros;rw[List.countP_pos_iff];exact⟨l[n.toNat],List.getElem_mem hn,by simp[hr]⟩
 unfold zeros at*;rw[List.countP_set hn];simp[hr,hf];omega
theorem foldR_zeros {rank:Int} {terms:Bool} (hr:rank≠0):∀(xs:List (Pr×Nat)) (s:List Fc×Bool),(∀x∈xs,0≤x.1.left∧x.1.left<s.1.length)→
  zeros (xs.foldl (stepR rank terms) s).1≤zeros s.1∧(s.2=false→(xs.foldl (stepR rank terms) s).2=true→zeros (xs.foldl (stepR rank terms) s).1<zeros s.1)
 |[],s,_=>⟨Nat.le_refl _,fun h1 h2=>by simp[h1] at h2⟩
 |x::xs,s,h=>by
  have ih:=foldR_zeros (terms:=terms) hr xs (stepR rank terms s x) (fun y hy=>by rw[stepR_len];exact h y (by simp[hy]));rw[List.foldl_cons];obtain⟨h0,h1⟩:=h x (by simp);by_cases c:rk s.1 x.1.left=0∧fits x.1 s.1 rank terms=true
  ·have e:stepR rank terms s x=(s.1.set x.1.left.toNat (rank,(x.2:Int)),true):=by simp only[stepR,c,and_self,if_true]
   have hz:=zeros_set (f:=(rank,(x.2:Int))) h0 h1 c.1 hr;rw[e] at ih ⊢;simp only at ih ⊢;exact⟨by omega,fun _ _=>by omega⟩
  ·have e:stepR rank terms s x=s:=by simp only[stepR,c,if_false]
   rw[e] at ih ⊢;exact ih
theorem mem_zipIdx {g:Gr} {x:Pr×Nat} (h:x∈g.prods.zipIdx):x.1∈g.prods:=List.fst_mem_of_mem_zipIdx h
theorem round_zeros {g:Gr} {rank:Int} {terms:Bool} {l:List Fc} (hr:rank≠0) (hl:g.In l) (h:(round g rank terms l).2=true):zeros (round g rank terms l).1<zeros l:=
 (foldR_zeros hr g.prods.zipIdx (l,false) fun x hx=>(hl x.1 (mem_zipIdx hx)).1).2 rfl h
theorem Gr.In.of {g:Gr} {l l':List Fc} (h:g.In l) (e:l'.length=l.length):g.In l':=fun p hp=>by
 obtain⟨h1,h2⟩:=h p hp;exact⟨by rw[e];exact h1,h2.of e⟩
theorem right_in {g:Gr} (h:right g=true):(1≤g.nons∧g.nons≤24)∧(0≤g.terms∧g.terms≤16)∧(0≤g.start∧g.start<g.nons)∧g.prods.length≤60∧
  ∀p∈g.prods,(0≤p.left∧p.left<g.nons)∧p.right.length≤8∧∀s∈p.right,0≤s.n∧s.n<if s.non then g.nons else g.terms:=by
 simp only[right,Bool.and_eq_true,Bool.not_eq_true',List.all_eq_true] at h;obtain⟨h1,h2⟩:=h;simp only[bad,Bool.or_eq_false_iff,decide_eq_false_iff_not] at h1;refine⟨by omega,by omega,by omega,by omega,fun p hp=>?_⟩;have:=h2 p hp;simp only[fitsP,there,Bool.and_eq_true,decide_eq_true_eq,Bool.not_eq_true',List.any_eq_false,if_true] at this;refine⟨this.1.1,this.1.2,fun s hs=>?_⟩;have h3:=this.2 s hs;simpa using h3
theorem right_In {g:Gr} (h:right g=true) {l:List Fc} (hl:(l.length:Int)=g.nons):g.In l:=fun p hp=>by
 obtain⟨_,_,_,_,h5⟩:=right_in h;obtain⟨h1,_,h3⟩:=h5 p hp;refine⟨by omega,fun s hs hn=>?_⟩;have:=h3 s hs;rw[hn] at this;simp at this;omega
def OwnFc (l:List Fc) (r:AV) (h:Heap):Prop:=(l=[]∧(r=.nils∨r=.ro []))∨∃b,r=.sl b 0 l.length 2∧h b=some (.cells (l.map eFc))
theorem OwnFc.pf {f:FuncId} {args:List AV} {l:List Fc} (h:FH pg Tq f args h0 0 fun r h _=>OwnFc l r h):PF pg Tq f args (.ro (l.map eFc)):=by
 obtain⟨r,h',n',hb,ho⟩:=h;refine⟨r,h',n',hb,4,fun fr=>?_⟩;rcases ho with ⟨rfl,rfl|rfl⟩|⟨b,rfl,hh⟩
 ·simp[rf]
 ·simp[rf]
 ·exact rf_sl hh rfl
theorem VCall.fc {s:Nat} {g:FuncId} {args:List AV} {h:Heap} {x:Nat} {k:Cls→AV→Heap→Nat→Prop} {l:List Fc} (d:Nat) (hf:FH pg Tq g args h0 0 fun r h _=>OwnFc l r h) (hr:rfs true d h0 args=some args)
  (k1:l=[]→k .L (.ro []) h x) (k2:k .L (.sl s 0 l.length 2) (upd h s (some (.cells (l.map eFc)))) x):VCall pg Tq s g args h x k:=by
 obtain⟨r,h',n',hb,ho⟩:=hf;rcases ho with ⟨rfl,rfl|rfl⟩|⟨b,rfl,hh⟩
 ·exact .inr (.inl ⟨false,d,1,args,.nils,.ro [],h',n',hr,hb,by simp[rf],k1 rfl⟩)
 ·exact .inr (.inl ⟨false,d,1,args,.ro [],.ro [],h',n',hr,hb,by simp[rf],k1 rfl⟩)
 ·exact .inr (.inr ⟨false,d,3,args,b,_,2,_,l.map eFc,h',n',hr,hb,hh,by simp,rfe_fc l,k2⟩)
theorem fz141 (g:Gr) (hg:g.Small) (terms:Bool):FH pg Tq 141 [.agg (eGr g),.bool terms] h0 0 fun r h _=>OwnFc (ranksL g terms) r h:=by
 refine FH.of (N:=21) (rs:=#[.tmp 4]) Tryz.func141 rfl rfl (of_decide_eq_true rfl) rfl (by decide) ?_;refine W.rseq (k:=3) rfl fun K hK=>?_;simp only[go_sem];refine hK _ _ _ ?_;clear hK K;refine W.seq ?_;refine W.rseq (k:=3) rfl fun K hK=>?_;simp only[go_sem];refine VCall.frz 6 (fz57 g hg) rfl ?_;try simp only[go_sem];refine hK _ _ _ ?_;clear hK K
 cases hr:right g
 ·refine W.condT (by simp only[go_sem]) ?_;refine W.rseq (k:=1) rfl fun K hK=>?_;simp only[go_sem];refine hK _ _ _ ?_;clear hK K;refine W.ret ?_;simp only[go_sem]
  exact .inl ⟨by simp[ranksL,hr],.inl rfl⟩
 refine W.condF (by simp only[go_sem]) ?_;refine W.skip ?_;simp only[go_sem];obtain⟨⟨hn1,hn2⟩,_⟩:=right_in hr;have hlen:((List.replicate g.nons.toNat ((0,0):Fc)).length:Int)=g.nons:=by simp;omega
 refine W.rseq (k:=5) rfl fun K hK=>?_;simp only[go_sem,show(0:Int)≤g.nons by omega,show g.nons*16≤140737488355328 by omega,show(0:Nat)<16 by omega,show(0:Nat)<2 by omega];refine hK _ _ _ ?_;clear hK K;refine W.rseq (k:=2) rfl fun K hK=>?_;simp only[go_sem];refine hK _ _ _ ?_;clear hK K;refine W.seq ?_;refine W.rseq (k:=1) rfl fun K hK=>?_;simp only[go_sem];refine hK _ _ _ ?_;clear hK K
 refine W.block (W.while (fun m t h n=>∃(l:List Fc) (rank:Int),l.length=g.nons.toNat∧1≤rank∧rank+m≤26∧zeros l<m∧loopR g terms m rank l=loopR g terms (g.nons.toNat+1) 1 (List.replicate g.nons.toNat (0,0))∧10≤n∧t 5=.ptr 9 0 0∧t 6=.fn 204 [.ptr 0 0 0,.ptr 9 0 0,.ptr 1 0 0]∧t 7=.int .i64 rank∧
   h 0=some (.cells [eGr g])∧h 9=some (.cells [[.sl 8 0 l.length 2]])∧h 1=some (.cells [[.bool terms]])∧h 8=some (.cells (l.map eFc))) (g.nons.toNat+1)
  ⟨List.replicate g.nons.toNat (0,0),1,by simp,by omega,by omega,Nat.lt_succ_of_le (by simpa[zeros] using List.countP_le_length (p:=fun f:Fc=>f.1==0) (l:=List.replicate g.nons.toNat (0,0))),rfl,by omega,rfl,rfl,rfl,by simp only[go_sem],by simp only[go_sem,List.length_replicate],by simp only[go_sem],by simp only[go_sem,List.map_replicate]⟩ fun m t h n ⟨l,rank,i1,i2,i3,i4,i5,i6,i7,i8,i9,i10,i11,i12,i13⟩=>?_)
 have hIn:g.In l:=right_In hr (by omega);refine W.seq ?_;refine W.rseq (k:=3) rfl fun K hK=>?_;simp only[go_sem,i8,i9]
 refine VCall.heap (fz204 g hg rank terms l hIn 0 9 1 8 (n+3) h (by omega) (by omega) (by omega) (by omega) (by omega) (by omega) (by omega) i10 i11 i12 i13) fun r h' x' ⟨er,hx,m1,m2,m3,m4⟩=>?_
 subst er;simp only[go_sem];refine hK _ _ _ ?_;clear hK K;obtain⟨m',rfl⟩:∃m',m=m'+1:=⟨m - 1,by omega⟩;rw[loopR] at i5;refine W.cond rfl (fun hc=>?_) fun hc=>?_
 ·refine W.skip ?_;simp only[go_sem];refine W.seq (W.block ?_);refine W.skip ?_;simp only[go_sem];refine W.region (k:=3) rfl ?_;simp only[go_sem,i9];rw[hc] at i5;have hz:=round_zeros (by omega) hIn hc;refine⟨m',by omega,(round g rank terms l).1,rank+1,by rw[round_len];exact i1,by omega,by omega,by omega,by simpa using i5,by omega,i7,i8, ?_,m1, ?_,m3,m4⟩
  ·rw[wrap64 (by omega) (by omega)]
  ·rw[round_len];exact m2
 ·refine W.exit ?_;simp only[go_sem];refine W.rseq (k:=2) rfl fun K hK=>?_;simp only[go_sem,i7,m2];refine hK _ _ _ ?_;clear hK K;refine W.ret ?_;simp only[go_sem]
  rw[hc] at i5
  have:ranksL g terms=(round g rank terms l).1:=by
   rw[ranksL,hr,if_pos rfl,←i5];simp
  rw[this];exact .inr ⟨8,by rw[round_len],m4⟩
theorem fz256 (g:Gr) (hg:g.Small):FH pg Tq 256 [.agg (eGr g)] h0 0 fun r h _=>OwnFc (ranksL g false) r h:=by
 refine FH.of (N:=5) (rs:=#[.tmp 2]) Tryz.func256 rfl rfl (of_decide_eq_true rfl) rfl (by decide) ?_;refine W.rseq (k:=2) rfl fun K hK=>?_;simp only[go_sem];refine hK _ _ _ ?_;clear hK K;refine W.rseq (k:=3) rfl fun K hK=>?_;simp only[go_sem]
 refine VCall.fc 6 (fz141 g hg false) rfl (fun hn=>?_) ?_
 ·simp only[go_sem];refine hK _ _ _ ?_;clear hK K;refine W.ret ?_;simp only[go_sem];exact .inl ⟨hn,.inr rfl⟩
 ·simp only[go_sem];refine hK _ _ _ ?_;clear hK K;refine W.ret ?_;simp only[go_sem];exact .inr ⟨_,rfl,by simp only[go_sem]⟩
theorem fz71 (g:Gr) (hg:g.Small):FH pg Tq 71 [.agg (eGr g)] h0 0 fun r h _=>OwnFc (ranksL g true) r h:=by
 refine FH.of (N:=5) (rs:=#[.tmp 2]) Tryz.func71 rfl rfl (of_decide_eq_true rfl) rfl (by decide) ?_;refine W.rseq (k:=2) rfl fun K hK=>?_;simp only[go_sem];refine hK _ _ _ ?_;clear hK K;refine W.rseq (k:=3) rfl fun K hK=>?_;simp only[go_sem]
 refine VCall.fc 6 (fz141 g hg true) rfl (fun hn=>?_) ?_
 ·simp only[go_sem];refine hK _ _ _ ?_;clear hK K;refine W.ret ?_;simp only[go_sem];exact .inl ⟨hn,.inr rfl⟩
 ·simp only[go_sem];refine hK _ _ _ ?_;clear hK K;refine W.ret ?_;simp only[go_sem];exact .inr ⟨_,rfl,by simp only[go_sem]⟩
end Go.Av
namespace Go.Av
open Go.Proofs
set_option maxRecDepth 100000
def fits0 (p:Pr) (l:List Fc) (below:Int) (terms:Bool):Bool:= !(p.right.any (off0 l below terms))
def nextFrom (g:Gr) (l:List Fc) (rank:Int) (terms:Bool) (non j:Nat):Fc:=
 if rk l non=0 then match (g.prods.drop j).findIdx? (fun p=>decide (p.left=(non:Int)) && fits0 p l rank terms) with
  |some q=>(rank,((q+j:Nat):Int))
  |none=>l.getD non (0,0)
 else l.getD non (0,0)
def nextL (g:Gr) (terms:Bool) (rank:Int) (l:List Fc):List Fc:=(List.range l.length).map fun x=>nextFrom g l rank terms x 0
def iterR (g:Gr) (terms:Bool):Nat→Int→List Fc→List Fc
 |0,_,l=>l
 |f+1,rank,l=>iterR g terms f (rank+1) (nextL g terms rank l)
def ranksRef (g:Gr) (terms:Bool):List Fc:=if right g then iterR g terms g.nons.toNat 1 (List.replicate g.nons.toNat (0,0)) else []
theorem nextFrom_hit {g:Gr} {l:List Fc} {rank:Int} {terms:Bool} {non j:Nat} {p:Pr} (hp:g.prods[j]?=some p) (h0:rk l non=0) (h1:p.left=(non:Int)) (h2:fits0 p l rank terms=true):nextFrom g l rank terms non j=(rank,(j:Int)):=by
 have hj:j<g.prods.length:=(List.getElem?_eq_some_iff.1 hp).1
 have hd:g.prods.drop j=p::g.prods.drop (j+1):=by
  rw[List.drop_eq_getElem_cons hj]
  congr 1
  exact(List.getElem_eq_iff hj).2 hp
 simp[nextFrom,h0,hd,List.findIdx?_cons,h1,h2]
theorem nextFrom_miss {g:Gr} {l:List Fc} {rank:Int} {terms:Bool} {non j:Nat} {p:Pr} (hp:g.prods[j]?=some p) (h:(decide (rk l non=0) && (decide (p.left=(non:Int)) && fits0 p l rank terms))=false):nextFrom g l rank terms non j=nextFrom g l rank terms non (j+1):=by
 have hj:j<g.prods.length:=(List.getElem?_eq_some_iff.1 hp).1
 have hd:g.prods.drop j=p::g.prods.drop (j+1):=by
  rw[List.drop_eq_getElem_cons hj]
  congr 1
  exact(List.getElem_eq_iff hj).2 hp
 by_cases h0:rk l non=0
 ·have h':(decide (p.left=(non:Int)) && fits0 p l rank terms)=false:=by simpa[h0] using h
  simp only[nextFrom,h0,hd,List.findIdx?_cons,h',if_true,Bool.false_eq_true,if_false]
  cases (g.prods.drop (j+1)).findIdx? (fun p=>decide (p.left=(non:Int)) && fits0 p l rank terms) with
  |none=>rfl
  |some q=>simp;omega
 ·simp[nextFrom,h0]
theorem nextFrom_end {g:Gr} {l:List Fc} {rank:Int} {terms:Bool} {non:Nat}:nextFrom g l rank terms non g.prods.length=l.getD non (0,0):=by
 simp[nextFrom]
theorem nextL_len {g:Gr} {l:List Fc} {rank:Int} {terms:Bool}:(nextL g terms rank l).length=l.length:=by simp[nextL]
theorem fz36 (g:Gr) (hg:g.Small) (terms:Bool):FH pg Tq 36 [.agg (eGr g),.bool terms] h0 0 fun r h _=>OwnFc (ranksRef g terms) r h:=by
 refine FH.of (N:=74) (rs:=#[.tmp 4]) Tryz.func36 rfl rfl (of_decide_eq_true rfl) rfl (by decide) ?_;refine W.rseq (k:=2) rfl fun K hK=>?_;simp only[go_sem];refine hK _ _ _ ?_;clear hK K;refine W.seq ?_;refine W.rseq (k:=3) rfl fun K hK=>?_;simp only[go_sem];refine VCall.frz 6 (fz24 g hg) rfl ?_;try simp only[go_sem];refine hK _ _ _ ?_;clear hK K
 cases hr:right g
 ·refine W.condT (by simp only[go_sem]) ?_;refine W.rseq (k:=1) rfl fun K hK=>?_;simp only[go_sem];refine hK _ _ _ ?_;clear hK K;refine W.ret ?_;simp only[go_sem]
  exact .inl ⟨by simp[ranksRef,hr],.inl rfl⟩
 refine W.condF (by simp only[go_sem]) ?_;refine W.skip ?_;simp only[go_sem];obtain⟨⟨hn1,hn2⟩,_,_,hp60,_⟩:=right_in hr;refine W.rseq (k:=4) rfl fun K hK=>?_;simp only[go_sem,show(0:Int)≤g.nons by omega,show g.nons*16≤140737488355328 by omega,show(0:Nat)<16 by omega,show(0:Nat)<2 by omega];refine hK _ _ _ ?_;clear hK K;refine W.seq ?_;refine W.rseq (k:=1) rfl fun K hK=>?_;simp only[go_sem];refine hK _ _ _ ?_;clear hK K
 refine W.block (W.while (fun m t h n=>∃(l:List Fc) (rank:Int) (bl:Nat),l.length=g.nons.toNat∧1≤rank∧rank+m=g.nons+1∧iterR g terms m rank l=iterR g terms g.nons.toNat 1 (List.replicate g.nons.toNat (0,0))∧0<bl∧bl<n∧t 1=.bool terms∧t 2=.ptr 0 0 0∧t 5=.sl bl 0 l.length 2∧t 6=.int .i64 rank∧
   h 0=some (.cells [eGr g])∧h bl=some (.cells (l.map eFc))) g.nons.toNat
  ⟨List.replicate g.nons.toNat (0,0),1,_,by simp,by omega,by omega,rfl, ?_, ?_,rfl,rfl,by simp only[go_sem,List.length_replicate];rfl,rfl,by simp only[go_sem],by simp only[go_sem,List.map_replicate]⟩ fun m t h n ⟨l,rank,bl,i1,i2,i3,i4,i5,i6,i7,i8,i9,i10,i11,i12⟩=>?_)
 ·omega
 ·omega
 have hIn:g.In l:=right_In hr (by omega);refine W.seq ?_;refine W.rseq (k:=4) rfl fun K hK=>?_;simp only[go_sem,i8,i10,i11];refine hK _ _ _ ?_;clear hK K
 refine W.cond rfl (fun hc=>?_) fun hc=>?_
 ·refine W.skip ?_;simp only[go_sem];have hrk:rank≤g.nons:=by simpa using hc
  obtain⟨m',rfl⟩:∃m',m=m'+1:=⟨m - 1,by omega⟩;rw[iterR] at i4;refine W.seq (W.block ?_);have htake:List.take l.length (l.map eFc)=l.map eFc:=List.take_of_length_le (by simp)
  have hne:(l.map eFc).isEmpty=false:=by
   cases l with
   |nil=>simp at i1;omega
   |cons a l=>rfl
  refine W.rseq (k:=4) rfl fun K hK=>?_;simp only[go_sem,i9,i12,htake,hne,show l.length*16≤140737488355328 by omega,show(0:Nat)<16 by omega,show(0:Nat)<2 by omega];refine hK _ _ _ ?_;clear hK K
  obtain⟨bx,hbx⟩:∃bx,bx=n+6:=⟨_,rfl⟩;have hget:∀x:Nat,x<l.length→l[x]?=some (l.getD x (0,0)):=fun x hx=>by simp[hx]
  refine W.seq ?_;refine W.rseq (k:=1) rfl fun K hK=>?_;simp only[go_sem];refine hK _ _ _ ?_;clear hK K
  refine W.block (W.while (fun m t h n'=>∃non:Nat,m=l.length - non∧non≤l.length∧bx<n'∧t 1=.bool terms∧t 2=.ptr 0 0 0∧t 5=.sl bl 0 l.length 2∧t 6=.int .i64 rank∧t 7=.sl bx 0 l.length 2∧t 8=.int .i64 non∧
    h 0=some (.cells [eGr g])∧h bl=some (.cells (l.map eFc))∧∃c:List Fc,c.length=l.length∧h bx=some (.cells (c.map eFc))∧∀x,x<l.length→c[x]?=some (if x<non then nextFrom g l rank terms x 0 else l.getD x (0,0))) l.length
   ⟨0,by simp,by simp,by omega,i7,i8,by simp only[go_sem,i9],i10,by simp only[go_sem,hbx],rfl,by simp only[go_sem,i11],by simp only[go_sem,i12,show ∀i,¬(bl=n+i) from fun i=>by omega],l,rfl,by simp only[go_sem,hbx],fun x hx=>by simpa using hget x hx⟩
   fun m t h n' ⟨non,j1,j2,j3,j4,j5,j6,j7,j8,j9,j10,j11,c,j12,j13,j14⟩=>?_)
  have y1:∀i,¬(bl=n'+i):=fun i=>by omega
  have y2:∀i,¬(bx=n'+i):=fun i=>by omega
  refine W.seq ?_;refine W.rseq (k:=4) rfl fun K hK=>?_;simp only[go_sem,j5,j9,j10];refine hK _ _ _ ?_;clear hK K
  refine W.cond rfl (fun hc2=>?_) fun hc2=>?_
  ·refine W.skip ?_;simp only[go_sem];have hnon:non<l.length:=by simp at hc2;omega
   refine W.seq (W.block ?_);have hw:IntKind.wrap .i64 ((g.prods.length:Int) - 1)=(g.prods.length:Int) - 1:=wrap64 (by omega) (by omega);refine W.rseq (k:=5) rfl fun K hK=>?_;simp only[go_sem,j5,j10,hw];refine hK _ _ _ ?_;clear hK K
   refine W.block (W.while (fun m t h n2=>∃j:Nat,m=j∧j≤g.prods.length∧bx<n2∧t 1=.bool terms∧t 2=.ptr 0 0 0∧t 5=.sl bl 0 l.length 2∧t 6=.int .i64 rank∧t 7=.sl bx 0 l.length 2∧t 8=.int .i64 non∧t 9=.int .i64 ((j:Int) - 1)∧
     h 0=some (.cells [eGr g])∧h bl=some (.cells (l.map eFc))∧∃c:List Fc,c.length=l.length∧h bx=some (.cells (c.map eFc))∧∀x,x<l.length→c[x]?=some (if x<non then nextFrom g l rank terms x 0 else if x=non then nextFrom g l rank terms non j else l.getD x (0,0))) g.prods.length
    ⟨g.prods.length,rfl,by simp,by omega,j4,j5,j6,j7,j8,j9,rfl,j10,j11,c,j12,j13,fun x hx=>by
     rw[j14 x hx];by_cases h1:x<non
     ·simp[h1]
     ·by_cases h2:x=non
      ·subst h2;simp[nextFrom_end]
      ·simp[h1,h2]⟩
    fun m t h n2 ⟨j,k1,k2,k3,k4,k5,k6,k7,k8,k9,k10,k11,k12,c,k13,k14,k15⟩=>?_)
   have x1:∀i,¬(bl=n2+i):=fun i=>by omega
   have x2:∀i,¬(bx=n2+i):=fun i=>by omega
   have x3:∀i,¬(0=n2+i):=fun i=>by omega
   refine W.seq ?_;refine W.rseq (k:=2) rfl fun K hK=>?_;simp only[go_sem,k10];refine hK _ _ _ ?_;clear hK K
   refine W.cond rfl (fun hc3=>?_) fun hc3=>?_
   ·refine W.skip ?_;simp only[go_sem];obtain⟨i,rfl⟩:∃i,j=i+1:=⟨j - 1,by simp at hc3;omega⟩;have e9:t 9=.int .i64 (i:Int):=by rw[k10];congr 1;omega
    clear k10 hc3;obtain⟨p,hp⟩:=get_some (show i<g.prods.length by omega);have hm:p∈g.prods:=List.mem_of_getElem? hp;obtain⟨⟨hl0,hl1⟩,hin⟩:=hIn p hm;obtain⟨b,hb⟩:=fc_get (l:=l) (n:=(non:Int)) (by omega) (by omega);have hb':l[non]?=some (rk l non,b):=by simpa using hb
    refine W.seq (W.block ?_);refine W.rseq (k:=27) rfl fun K hK=>?_
    have mid:∀t (h:Heap) n2 cc,t 65=.bool cc→cc=(decide (rk l non=0) && (decide (p.left=(non:Int)) && fits0 p l rank terms))→bx<n2→t 1=.bool terms→t 2=.ptr 0 0 0→t 5=.sl bl 0 l.length 2→t 6=.int .i64 rank→t 7=.sl bx 0 l.length 2→t 8=.int .i64 non→t 9=.int .i64 (i:Int)→
      h 0=some (.cells [eGr g])→h bl=some (.cells (l.map eFc))→h bx=some (.cells (c.map eFc))→K t h n2:=by
     intro t h n2 cc e65 hcc hn2 e1 e2 e5 e6 e7 e8 e9 m0 ml mx;refine hK _ _ _ ?_;clear hK K;refine W.cond (r:=cc) (by simp only[go_sem,e65]) (fun hc3=>?_) fun hc3=>?_
     ·rw[hc3] at hcc;have hcc':rk l non=0∧p.left=(non:Int)∧fits0 p l rank terms=true:=by simpa using hcc.symm
      have hcn:(c.map eFc)[non]?=some (eFc (c.getD non (0,0))):=by simp[show non<c.length by omega]
      refine W.region (k:=7) rfl ?_;simp only[go_sem,e6,e7,e8,e9,mx,show(non:Int)<(l.length:Int) by omega,show non<c.length by omega,(show c[non]?=some (c.getD non (0,0)) by simp[show non<c.length by omega])];refine W.region (k:=3) rfl ?_;simp only[go_sem,e9];refine⟨i,by omega,i,rfl,by omega,by omega,e1,e2,e5,e6,e7,e8, ?_, ?_, ?_,c.set non (rank,(i:Int)),by simpa using k13, ?_,fun x hx=>?_⟩
      ·rw[wrap64 (by omega) (by omega)]
      ·simp only[go_sem,show ¬(0=bx) by omega,m0]
      ·simp only[go_sem,show ¬(bl=bx) by omega,ml]
      ·simp only[go_sem,List.map_set]
      ·rw[List.getElem?_set];by_cases h2:non=x
       ·subst h2;rw[if_pos rfl,if_pos (by omega),nextFrom_hit hp hcc'.1 hcc'.2.1 hcc'.2.2];simp
       ·rw[if_neg h2,k15 x hx];simp[Ne.symm h2]
     ·refine W.skip ?_;simp only[go_sem];refine W.region (k:=3) rfl ?_;simp only[go_sem,e9];rw[hc3] at hcc;refine⟨i,by omega,i,rfl,by omega,by omega,e1,e2,e5,e6,e7,e8, ?_,m0,ml,c,k13,mx,fun x hx=>?_⟩
      ·rw[wrap64 (by omega) (by omega)]
      ·rw[k15 x hx,nextFrom_miss hp hcc.symm]
    clear hK;simp only[go_sem,k5,k6,k9,k11,k12,e9,show(non:Int)<(l.length:Int) by omega,hb'];by_cases c1:rk l non=0
    ·simp only[go_sem,c1,k5,k8,k9,k11,e9,hp];by_cases c2:p.left=(non:Int)
     ·have c2':decide (p.left=(non:Int))=true:=by simp[c2]
      simp only[go_sem,c2',k4,k5,k6,k7,k8,k9,k11,k12,e9,hp];refine VCall.frzq 8 (rfs_cons rfl (rfs_cons (rf_sl (l:=l) (by simp only[go_sem,k12]) rfl) (rfs_cons rfl (rfs_cons rfl rfs_nil)))) (fz96 p l rank terms (hg.2 p hm) hin) ?_;simp only[go_sem];exact mid _ _ _ _ rfl (by simp[c1,c2,fits0]) (by omega) k4 k5 k6 k7 k8 k9 e9 k11 k12 k14
     ·simp only[go_sem,c2];exact mid _ _ _ _ rfl (by simp[c1,c2]) (by omega) k4 k5 k6 k7 k8 k9 e9 k11 k12 k14
    ·simp only[go_sem,c1];exact mid _ _ _ _ rfl (by simp[c1]) (by omega) k4 k5 k6 k7 k8 k9 e9 k11 k12 k14
   ·refine W.exit ?_;simp only[go_sem];have hj:j=0:=by simp at hc3;omega
    subst hj;refine W.region (k:=3) rfl ?_;simp only[go_sem,k9];refine⟨l.length - (non+1),by omega,non+1,rfl,by omega,by omega,k4,k5,k6,k7,k8, ?_,k11,k12,c,k13,k14,fun x hx=>?_⟩
    ·rw[wrap64 (by omega) (by omega)];rfl
    ·rw[k15 x hx];by_cases h1:x<non
     ·simp[h1,show x<non+1 by omega]
     ·by_cases h2:x=non
      ·subst h2;simp
      ·simp[h1,h2,show ¬x<non+1 by omega]
  ·refine W.exit ?_;simp only[go_sem];have hnon:¬non<l.length:=by simp at hc2;omega
   have hcn:c=nextL g terms rank l:=by
    refine List.ext_getElem? fun x=>?_
    by_cases hx:x<l.length
    ·rw[j14 x hx,if_pos (by omega)];simp[nextL,hx]
    ·rw[List.getElem?_eq_none (by omega),List.getElem?_eq_none (by rw[nextL_len];omega)]
   subst hcn;refine W.region (k:=2) rfl ?_;simp only[go_sem,j8];refine W.region (k:=3) rfl ?_;simp only[go_sem,j7];refine⟨m',by omega,nextL g terms rank l,rank+1,bx,by rw[nextL_len];exact i1,by omega,by omega,i4,by omega,by omega,j4,j5, ?_, ?_,j10,j13⟩
   ·rw[nextL_len]
   ·rw[wrap64 (by omega) (by omega)]
 ·refine W.exit ?_;simp only[go_sem];refine W.rseq (k:=2) rfl fun K hK=>?_;simp only[go_sem,i9];refine hK _ _ _ ?_;clear hK K;refine W.ret ?_;simp only[go_sem]
  have hm:m=0:=by simp at hc;omega
  subst hm;rw[iterR] at i4;refine .inr ⟨bl, ?_, ?_⟩
  ·rw[ranksRef,hr,if_pos rfl,←i4]
  ·rw[ranksRef,hr,if_pos rfl,←i4];exact i12
end Go.Av
namespace Go.Av
open Go.Proofs
set_option maxRecDepth 100000
def showAt (g:Gr) (l:List Fc) (terms:Bool) (non:Nat) (f:Fc):Bool:=
 if f.1<0 then false else if f.1=0 then decide (f.2=0) else
  if f.2<0 then false else match g.prods[f.2.toNat]? with
   |some p=>decide (p.left=(non:Int)) && fits p l f.1 terms
   |none=>false
def shows (g:Gr) (l:List Fc) (terms:Bool):Bool:=right g && decide ((l.length:Int)=g.nons) && l.zipIdx.all fun x=>showAt g l terms x.2 x.1
end Go.Av
namespace Go.Av
open Go.Proofs
set_option maxRecDepth 100000
end Go.Av
namespace Go.Av
open Go.Proofs
set_option maxRecDepth 100000
end Go.Av
