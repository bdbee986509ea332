/-
  Copies; are numbers the same; the next symbol. Conditions: none.
-/
import Derived.Test.YtjpkjbobcicfoaaGreatDoorEL
set_option linter.unusedSimpArgs false
set_option linter.unusedVariables false
namespace Go.Av
open Go.Proofs
set_option maxRecDepth 100000
abbrev It:=Nat×Nat×Nat
def eIt (x:It):List AV:=[.int .i64 x.1,.int .i64 x.2.1,.int .i64 x.2.2]
def eSe (s:List It):List AV:=[.ro (s.map eIt)]
def eLi (l:List Int):List AV:=[.ro (l.map eIn)]
attribute [go_sem] eIt eSe eLi
theorem fz154 (l:List (It)) (f:FuncId) (caps:List AV) (p:It→Bool) (hl:l.length<2^60) (hp:∀s∈l,PF pg Tq f (.agg (eIt s)::caps) (.bool (p s))) (hz:∀s:It,rfs true 6 h0 (.agg (eIt s)::caps)=some (.agg (eIt s)::caps)):
  PF pg Tq 154 [.ro (l.map eIt),.fn f caps] (.int .i64 (idx p l)):=by
 refine Fi ?_;refine FH.of (N:=19) (rs:=#[.tmp 4]) Tryz.func154 rfl rfl (of_decide_eq_true rfl) rfl (by decide) ?_;refine W.rseq (k:=1) rfl fun K hK=>?_;simp only[go_sem];refine hK _ _ _ ?_;clear hK K;refine W.seq ?_;refine W.rseq (k:=3) rfl fun K hK=>?_;simp only[go_sem];refine hK _ _ _ ?_;clear hK K
 refine W.block (W.while (fun m t h n=>∃k:Nat,m=l.length - k∧k≤l.length∧t 0=.ro (l.map eIt)∧t 1=.fn f caps∧t 7=.int .i64 l.length∧t 8=.int .i64 k∧∀x∈l.take k,p x=false) l.length ⟨0,by simp,by simp,rfl,rfl,rfl,rfl,by simp⟩ fun m t h n ⟨k,i1,i2,i3,i4,i5,i6,i7⟩=>?_);refine W.rseq (k:=1) rfl fun K hK=>?_;simp only[go_sem,i5,i6];refine hK _ _ _ ?_;clear hK K;refine W.seq ?_
 refine W.cond rfl (fun hc=>?_) fun hc=>?_
 ·refine W.skip ?_;simp only[go_sem];have hk:k<l.length:=by simp at hc;omega
  obtain⟨x,hx⟩:=get_some hk;have hm:x∈l:=List.mem_of_getElem? hx;refine W.seq (W.block ?_);refine W.rseq (k:=2) rfl fun K hK=>?_;simp only[go_sem,i6];refine hK _ _ _ ?_;clear hK K;refine W.rseq (k:=6) rfl fun K hK=>?_;simp only[go_sem,i3,i4,hx];refine VCall.frz 6 (hp x hm) (hz x) ?_;try simp only[go_sem,i3,i4,hx];refine hK _ _ _ ?_;clear hK K
  refine W.cond rfl (fun hc2=>?_) fun hc2=>?_
  ·refine W.rseq (k:=2) rfl fun K hK=>?_;simp only[go_sem];refine hK _ _ _ ?_;clear hK K;refine W.ret ?_;simp only[go_sem]
   have:idx p l=k:=by
    have h1:l.any p=true:=List.any_eq_true.2 ⟨x,hm,hc2⟩
    have h2:l.findIdx p=k:=by
     rw[List.findIdx_eq hk];refine⟨by rw[(List.getElem_eq_iff hk).2 hx];exact hc2,fun j hj=>?_⟩;exact i7 _ (List.mem_take_iff_getElem.2 ⟨j,by omega,rfl⟩)
    simp[idx,h1,h2]
   simp[this]
  ·refine W.skip ?_;simp only[go_sem];refine W.region (k:=2) rfl ?_;simp only[go_sem,i6];refine⟨l.length - (k+1),by omega,k+1,rfl,by omega,i3,i4,i5, ?_, ?_⟩
   ·rw[wrap64 (by omega) (by omega)];rfl
   ·intro y hy;rw[List.take_add_one,hx] at hy;simp at hy;rcases hy with hy|rfl
    ·exact i7 y hy
    ·exact hc2
 ·refine W.exit ?_;simp only[go_sem];refine W.rseq (k:=1) rfl fun K hK=>?_;simp only[go_sem];refine hK _ _ _ ?_;clear hK K;refine W.ret ?_;simp only[go_sem]
  have hk:¬k<l.length:=by simp at hc;omega
  rw[List.take_of_length_le (by omega)] at i7;have h1:l.any p=false:=by simpa using i7
  simp[idx,h1]
theorem fz90 (l:List (It)) (f:FuncId) (caps:List AV) (p:It→Bool) (hl:l.length<2^60) (hp:∀s∈l,PF pg Tq f (.agg (eIt s)::caps) (.bool (p s))) (hz:∀s:It,rfs true 6 h0 (.agg (eIt s)::caps)=some (.agg (eIt s)::caps)) (hz2:rfs true 6 h0 [.ro (l.map eIt),.fn f caps]=some [.ro (l.map eIt),.fn f caps]):
  PF pg Tq 90 [.ro (l.map eIt),.fn f caps] (.bool (l.any p)):=by
 refine Fb ?_;refine FH.of (N:=9) (rs:=#[.tmp 4]) Tryz.func90 rfl rfl (of_decide_eq_true rfl) rfl (by decide) ?_;refine W.rseq (k:=1) rfl fun K hK=>?_;simp only[go_sem];refine hK _ _ _ ?_;clear hK K;refine W.rseq (k:=5) rfl fun K hK=>?_;simp only[go_sem];refine VCall.frz 6 (fz154 l f caps p hl hp hz) hz2 ?_;try simp only[go_sem];refine hK _ _ _ ?_;clear hK K;refine W.ret ?_;simp only[go_sem]
 by_cases h1:l.any p<;>simp[idx,h1]
theorem fz156 (l:List ((List It))) (f:FuncId) (caps:List AV) (p:(List It)→Bool) (hl:l.length<2^60) (hp:∀s∈l,PF pg Tq f (.ro (s.map eIt)::caps) (.bool (p s))) (hz:∀s:(List It),rfs true 6 h0 (.ro (s.map eIt)::caps)=some (.ro (s.map eIt)::caps)):
  PF pg Tq 156 [.ro (l.map eSe),.fn f caps] (.int .i64 (idx p l)):=by
 refine Fi ?_;refine FH.of (N:=19) (rs:=#[.tmp 4]) Tryz.func156 rfl rfl (of_decide_eq_true rfl) rfl (by decide) ?_;refine W.rseq (k:=1) rfl fun K hK=>?_;simp only[go_sem];refine hK _ _ _ ?_;clear hK K;refine W.seq ?_;refine W.rseq (k:=3) rfl fun K hK=>?_;simp only[go_sem];refine hK _ _ _ ?_;clear hK K
 refine W.block (W.while (fun m t h n=>∃k:Nat,m=l.length - k∧k≤l.length∧t 0=.ro (l.map eSe)∧t 1=.fn f caps∧t 7=.int .i64 l.length∧t 8=.int .i64 k∧∀x∈l.take k,p x=false) l.length ⟨0,by simp,by simp,rfl,rfl,rfl,rfl,by simp⟩ fun m t h n ⟨k,i1,i2,i3,i4,i5,i6,i7⟩=>?_);refine W.rseq (k:=1) rfl fun K hK=>?_;simp only[go_sem,i5,i6];refine hK _ _ _ ?_;clear hK K;refine W.seq ?_
 refine W.cond rfl (fun hc=>?_) fun hc=>?_
 ·refine W.skip ?_;simp only[go_sem];have hk:k<l.length:=by simp at hc;omega
  obtain⟨x,hx⟩:=get_some hk;have hm:x∈l:=List.mem_of_getElem? hx;refine W.seq (W.block ?_);refine W.rseq (k:=2) rfl fun K hK=>?_;simp only[go_sem,i6];refine hK _ _ _ ?_;clear hK K;refine W.rseq (k:=6) rfl fun K hK=>?_;simp only[go_sem,i3,i4,hx];refine VCall.frz 6 (hp x hm) (hz x) ?_;try simp only[go_sem,i3,i4,hx];refine hK _ _ _ ?_;clear hK K
  refine W.cond rfl (fun hc2=>?_) fun hc2=>?_
  ·refine W.rseq (k:=2) rfl fun K hK=>?_;simp only[go_sem];refine hK _ _ _ ?_;clear hK K;refine W.ret ?_;simp only[go_sem]
   have:idx p l=k:=by
    have h1:l.any p=true:=List.any_eq_true.2 ⟨x,hm,hc2⟩
    have h2:l.findIdx p=k:=by
     rw[List.findIdx_eq hk];refine⟨by rw[(List.getElem_eq_iff hk).2 hx];exact hc2,fun j hj=>?_⟩;exact i7 _ (List.mem_take_iff_getElem.2 ⟨j,by omega,rfl⟩)
    simp[idx,h1,h2]
   simp[this]
  ·refine W.skip ?_;simp only[go_sem];refine W.region (k:=2) rfl ?_;simp only[go_sem,i6];refine⟨l.length - (k+1),by omega,k+1,rfl,by omega,i3,i4,i5, ?_, ?_⟩
   ·rw[wrap64 (by omega) (by omega)];rfl
   ·intro y hy;rw[List.take_add_one,hx] at hy;simp at hy;rcases hy with hy|rfl
    ·exact i7 y hy
    ·exact hc2
 ·refine W.exit ?_;simp only[go_sem];refine W.rseq (k:=1) rfl fun K hK=>?_;simp only[go_sem];refine hK _ _ _ ?_;clear hK K;refine W.ret ?_;simp only[go_sem]
  have hk:¬k<l.length:=by simp at hc;omega
  rw[List.take_of_length_le (by omega)] at i7;have h1:l.any p=false:=by simpa using i7
  simp[idx,h1]
theorem fz92 (l:List ((List It))) (f:FuncId) (caps:List AV) (p:(List It)→Bool) (hl:l.length<2^60) (hp:∀s∈l,PF pg Tq f (.ro (s.map eIt)::caps) (.bool (p s))) (hz:∀s:(List It),rfs true 6 h0 (.ro (s.map eIt)::caps)=some (.ro (s.map eIt)::caps)) (hz2:rfs true 6 h0 [.ro (l.map eSe),.fn f caps]=some [.ro (l.map eSe),.fn f caps]):
  PF pg Tq 92 [.ro (l.map eSe),.fn f caps] (.bool (l.any p)):=by
 refine Fb ?_;refine FH.of (N:=9) (rs:=#[.tmp 4]) Tryz.func92 rfl rfl (of_decide_eq_true rfl) rfl (by decide) ?_;refine W.rseq (k:=1) rfl fun K hK=>?_;simp only[go_sem];refine hK _ _ _ ?_;clear hK K;refine W.rseq (k:=5) rfl fun K hK=>?_;simp only[go_sem];refine VCall.frz 6 (fz156 l f caps p hl hp hz) hz2 ?_;try simp only[go_sem];refine hK _ _ _ ?_;clear hK K;refine W.ret ?_;simp only[go_sem]
 by_cases h1:l.any p<;>simp[idx,h1]
theorem fz157 (l:List ((List Int))) (f:FuncId) (caps:List AV) (p:(List Int)→Bool) (hl:l.length<2^60) (hp:∀s∈l,PF pg Tq f (.ro (s.map eIn)::caps) (.bool (p s))) (hz:∀s:(List Int),rfs true 6 h0 (.ro (s.map eIn)::caps)=some (.ro (s.map eIn)::caps)):
  PF pg Tq 157 [.ro (l.map eLi),.fn f caps] (.int .i64 (idx p l)):=by
 refine Fi ?_;refine FH.of (N:=19) (rs:=#[.tmp 4]) Tryz.func157 rfl rfl (of_decide_eq_true rfl) rfl (by decide) ?_;refine W.rseq (k:=1) rfl fun K hK=>?_;simp only[go_sem];refine hK _ _ _ ?_;clear hK K;refine W.seq ?_;refine W.rseq (k:=3) rfl fun K hK=>?_;simp only[go_sem];refine hK _ _ _ ?_;clear hK K
 refine W.block (W.while (fun m t h n=>∃k:Nat,m=l.length - k∧k≤l.length∧t 0=.ro (l.map eLi)∧t 1=.fn f caps∧t 7=.int .i64 l.length∧t 8=.int .i64 k∧∀x∈l.take k,p x=false) l.length ⟨0,by simp,by simp,rfl,rfl,rfl,rfl,by simp⟩ fun m t h n ⟨k,i1,i2,i3,i4,i5,i6,i7⟩=>?_);refine W.rseq (k:=1) rfl fun K hK=>?_;simp only[go_sem,i5,i6];refine hK _ _ _ ?_;clear hK K;refine W.seq ?_
 refine W.cond rfl (fun hc=>?_) fun hc=>?_
 ·refine W.skip ?_;simp only[go_sem];have hk:k<l.length:=by simp at hc;omega
  obtain⟨x,hx⟩:=get_some hk;have hm:x∈l:=List.mem_of_getElem? hx;refine W.seq (W.block ?_);refine W.rseq (k:=2) rfl fun K hK=>?_;simp only[go_sem,i6];refine hK _ _ _ ?_;clear hK K;refine W.rseq (k:=6) rfl fun K hK=>?_;simp only[go_sem,i3,i4,hx];refine VCall.frz 6 (hp x hm) (hz x) ?_;try simp only[go_sem,i3,i4,hx];refine hK _ _ _ ?_;clear hK K
  refine W.cond rfl (fun hc2=>?_) fun hc2=>?_
  ·refine W.rseq (k:=2) rfl fun K hK=>?_;simp only[go_sem];refine hK _ _ _ ?_;clear hK K;refine W.ret ?_;simp only[go_sem]
   have:idx p l=k:=by
    have h1:l.any p=true:=List.any_eq_true.2 ⟨x,hm,hc2⟩
    have h2:l.findIdx p=k:=by
     rw[List.findIdx_eq hk];refine⟨by rw[(List.getElem_eq_iff hk).2 hx];exact hc2,fun j hj=>?_⟩;exact i7 _ (List.mem_take_iff_getElem.2 ⟨j,by omega,rfl⟩)
    simp[idx,h1,h2]
   simp[this]
  ·refine W.skip ?_;simp only[go_sem];refine W.region (k:=2) rfl ?_;simp only[go_sem,i6];refine⟨l.length - (k+1),by omega,k+1,rfl,by omega,i3,i4,i5, ?_, ?_⟩
   ·rw[wrap64 (by omega) (by omega)];rfl
   ·intro y hy;rw[List.take_add_one,hx] at hy;simp at hy;rcases hy with hy|rfl
    ·exact i7 y hy
    ·exact hc2
 ·refine W.exit ?_;simp only[go_sem];refine W.rseq (k:=1) rfl fun K hK=>?_;simp only[go_sem];refine hK _ _ _ ?_;clear hK K;refine W.ret ?_;simp only[go_sem]
  have hk:¬k<l.length:=by simp at hc;omega
  rw[List.take_of_length_le (by omega)] at i7;have h1:l.any p=false:=by simpa using i7
  simp[idx,h1]
theorem fz93 (l:List ((List Int))) (f:FuncId) (caps:List AV) (p:(List Int)→Bool) (hl:l.length<2^60) (hp:∀s∈l,PF pg Tq f (.ro (s.map eIn)::caps) (.bool (p s))) (hz:∀s:(List Int),rfs true 6 h0 (.ro (s.map eIn)::caps)=some (.ro (s.map eIn)::caps)) (hz2:rfs true 6 h0 [.ro (l.map eLi),.fn f caps]=some [.ro (l.map eLi),.fn f caps]):
  PF pg Tq 93 [.ro (l.map eLi),.fn f caps] (.bool (l.any p)):=by
 refine Fb ?_;refine FH.of (N:=9) (rs:=#[.tmp 4]) Tryz.func93 rfl rfl (of_decide_eq_true rfl) rfl (by decide) ?_;refine W.rseq (k:=1) rfl fun K hK=>?_;simp only[go_sem];refine hK _ _ _ ?_;clear hK K;refine W.rseq (k:=5) rfl fun K hK=>?_;simp only[go_sem];refine VCall.frz 6 (fz157 l f caps p hl hp hz) hz2 ?_;try simp only[go_sem];refine hK _ _ _ ?_;clear hK K;refine W.ret ?_;simp only[go_sem]
 by_cases h1:l.any p<;>simp[idx,h1]
theorem fz222 (l:List (Int)) (f:FuncId) (caps:List AV) (p:Int→Bool) (hl:l.length<2^60) (hp:∀s∈l,PF pg Tq f (.int .i64 s::caps) (.bool (p s))) (hz:∀s:Int,rfs true 6 h0 (.int .i64 s::caps)=some (.int .i64 s::caps)):
  PF pg Tq 222 [.ro (l.map eIn),.fn f caps] (.int .i64 (idx p l)):=by
 refine Fi ?_;refine FH.of (N:=19) (rs:=#[.tmp 4]) Tryz.func222 rfl rfl (of_decide_eq_true rfl) rfl (by decide) ?_;refine W.rseq (k:=1) rfl fun K hK=>?_;simp only[go_sem];refine hK _ _ _ ?_;clear hK K;refine W.seq ?_;refine W.rseq (k:=3) rfl fun K hK=>?_;simp only[go_sem];refine hK _ _ _ ?_;clear hK K
 refine W.block (W.while (fun m t h n=>∃k:Nat,m=l.length - k∧k≤l.length∧t 0=.ro (l.map eIn)∧t 1=.fn f caps∧t 7=.int .i64 l.length∧t 8=.int .i64 k∧∀x∈l.take k,p x=false) l.length ⟨0,by simp,by simp,rfl,rfl,rfl,rfl,by simp⟩ fun m t h n ⟨k,i1,i2,i3,i4,i5,i6,i7⟩=>?_);refine W.rseq (k:=1) rfl fun K hK=>?_;simp only[go_sem,i5,i6];refine hK _ _ _ ?_;clear hK K;refine W.seq ?_
 refine W.cond rfl (fun hc=>?_) fun hc=>?_
 ·refine W.skip ?_;simp only[go_sem];have hk:k<l.length:=by simp at hc;omega
  obtain⟨x,hx⟩:=get_some hk;have hm:x∈l:=List.mem_of_getElem? hx;refine W.seq (W.block ?_);refine W.rseq (k:=2) rfl fun K hK=>?_;simp only[go_sem,i6];refine hK _ _ _ ?_;clear hK K;refine W.rseq (k:=6) rfl fun K hK=>?_;simp only[go_sem,i3,i4,hx];refine VCall.frz 6 (hp x hm) (hz x) ?_;try simp only[go_sem,i3,i4,hx];refine hK _ _ _ ?_;clear hK K
  refine W.cond rfl (fun hc2=>?_) fun hc2=>?_
  ·refine W.rseq (k:=2) rfl fun K hK=>?_;simp only[go_sem];refine hK _ _ _ ?_;clear hK K;refine W.ret ?_;simp only[go_sem]
   have:idx p l=k:=by
    have h1:l.any p=true:=List.any_eq_true.2 ⟨x,hm,hc2⟩
    have h2:l.findIdx p=k:=by
     rw[List.findIdx_eq hk];refine⟨by rw[(List.getElem_eq_iff hk).2 hx];exact hc2,fun j hj=>?_⟩;exact i7 _ (List.mem_take_iff_getElem.2 ⟨j,by omega,rfl⟩)
    simp[idx,h1,h2]
   simp[this]
  ·refine W.skip ?_;simp only[go_sem];refine W.region (k:=2) rfl ?_;simp only[go_sem,i6];refine⟨l.length - (k+1),by omega,k+1,rfl,by omega,i3,i4,i5, ?_, ?_⟩
   ·rw[wrap64 (by omega) (by omega)];rfl
   ·intro y hy;rw[List.take_add_one,hx] at hy;simp at hy;rcases hy with hy|rfl
    ·exact i7 y hy
    ·exact hc2
 ·refine W.exit ?_;simp only[go_sem];refine W.rseq (k:=1) rfl fun K hK=>?_;simp only[go_sem];refine hK _ _ _ ?_;clear hK K;refine W.ret ?_;simp only[go_sem]
  have hk:¬k<l.length:=by simp at hc;omega
  rw[List.take_of_length_le (by omega)] at i7;have h1:l.any p=false:=by simpa using i7
  simp[idx,h1]
theorem fz158 (l:List (Int)) (f:FuncId) (caps:List AV) (p:Int→Bool) (hl:l.length<2^60) (hp:∀s∈l,PF pg Tq f (.int .i64 s::caps) (.bool (p s))) (hz:∀s:Int,rfs true 6 h0 (.int .i64 s::caps)=some (.int .i64 s::caps)) (hz2:rfs true 6 h0 [.ro (l.map eIn),.fn f caps]=some [.ro (l.map eIn),.fn f caps]):
  PF pg Tq 158 [.ro (l.map eIn),.fn f caps] (.bool (l.any p)):=by
 refine Fb ?_;refine FH.of (N:=9) (rs:=#[.tmp 4]) Tryz.func158 rfl rfl (of_decide_eq_true rfl) rfl (by decide) ?_;refine W.rseq (k:=1) rfl fun K hK=>?_;simp only[go_sem];refine hK _ _ _ ?_;clear hK K;refine W.rseq (k:=5) rfl fun K hK=>?_;simp only[go_sem];refine VCall.frz 6 (fz222 l f caps p hl hp hz) hz2 ?_;try simp only[go_sem];refine hK _ _ _ ?_;clear hK K;refine W.ret ?_;simp only[go_sem]
 by_cases h1:l.any p<;>simp[idx,h1]
def within (n m:Int):Bool:=decide (0≤n) && decide (n≤m)
def oddI (x:It):Bool:= !within x.1 59|| !within x.2.1 8|| !within x.2.2 24
def wrongS (s:List It):Bool:=decide (1500<s.length)||s.any oddI
def derivL (l:List Int):Bool:=decide (l.length≤2000) && !(l.any fun n=> !within n 59)
def rightP (sets:List (List It)) (leads:List (List Int)):Bool:=decide (sets.length≤25) && decide (leads.length≤17) && !(sets.any wrongS) && !(leads.any fun l=> !derivL l)
theorem fz155 (n m:Int):PF pg Tq 155 [.int .i64 n,.int .i64 m] (.bool (within n m)):=by
 refine Fb ?_;unfold within;refine FH.of (N:=12) (rs:=#[.tmp 4]) Tryz.func155 rfl rfl (of_decide_eq_true rfl) rfl (by decide) ?_;refine W.rseq (k:=1) rfl fun K hK=>?_;simp only[go_sem];refine hK _ _ _ ?_;clear hK K
 by_cases h:0≤n
 ·refine W.rseq (k:=8) rfl fun K hK=>?_;simp only[go_sem,h];refine hK _ _ _ ?_;clear hK K;refine W.ret ?_;simp only[go_sem,h]
 ·refine W.rseq (k:=8) rfl fun K hK=>?_;simp only[go_sem,h];refine hK _ _ _ ?_;clear hK K;refine W.ret ?_;simp only[go_sem,h]
theorem fz91 (x:It):PF pg Tq 91 [.agg (eIt x)] (.bool (oddI x)):=by
 refine Fb ?_;unfold oddI;refine FH.of (N:=19) (rs:=#[.tmp 2]) Tryz.func91 rfl rfl (of_decide_eq_true rfl) rfl (by decide) ?_;refine W.rseq (k:=2) rfl fun K hK=>?_;simp only[go_sem];refine hK _ _ _ ?_;clear hK K;refine W.rseq (k:=17) rfl fun K hK=>?_;simp only[go_sem];refine VCall.frz 6 (fz155 x.1 59) rfl ?_
 cases h1:within x.1 59
 ·simp only[go_sem];refine hK _ _ _ ?_;refine W.ret ?_;simp only[go_sem]
  try first|rfl|simp_all
 ·simp only[go_sem];refine VCall.frz 6 (fz155 x.2.1 8) rfl ?_;cases h2:within x.2.1 8
  ·simp only[go_sem];refine hK _ _ _ ?_;refine W.ret ?_;simp only[go_sem]
   try first|rfl|simp_all
  ·simp only[go_sem];refine VCall.frz 6 (fz155 x.2.2 24) rfl ?_;simp only[go_sem];refine hK _ _ _ ?_;refine W.ret ?_;simp only[go_sem]
   try first|rfl|simp_all
theorem fz89 (s:List It) (hs:s.length<2^40):PF pg Tq 89 [.ro (s.map eIt)] (.bool (wrongS s)):=by
 refine Fb ?_;unfold wrongS;refine FH.of (N:=10) (rs:=#[.tmp 2]) Tryz.func89 rfl rfl (of_decide_eq_true rfl) rfl (by decide) ?_;refine W.rseq (k:=1) rfl fun K hK=>?_;simp only[go_sem];refine hK _ _ _ ?_;clear hK K
 by_cases h:(1500:Int)<s.length
 ·have h':1500<s.length:=by omega
  refine W.rseq (k:=8) rfl fun K hK=>?_;simp only[go_sem,h,List.length_map];refine hK _ _ _ ?_;clear hK K;refine W.ret ?_;simp only[go_sem,h',decide_true]
  try first|rfl|simp_all
 ·have h':¬1500<s.length:=by omega
  refine W.rseq (k:=8) rfl fun K hK=>?_;simp only[go_sem,h,List.length_map];refine VCall.frz 6 (fz90 s 91 [] oddI (by omega) (fun x _=>fz91 x) (fun _=>rfl) rfl) rfl ?_;try simp only[go_sem,h,List.length_map];refine hK _ _ _ ?_;clear hK K;refine W.ret ?_;simp only[go_sem,h',decide_false]
  try first|rfl|simp_all
theorem fz159 (n:Int):PF pg Tq 159 [.int .i64 n] (.bool (!within n 59)):=by
 refine Fb ?_;refine FH.of (N:=6) (rs:=#[.tmp 2]) Tryz.func159 rfl rfl (of_decide_eq_true rfl) rfl (by decide) ?_;refine W.rseq (k:=1) rfl fun K hK=>?_;simp only[go_sem];refine hK _ _ _ ?_;clear hK K;refine W.rseq (k:=4) rfl fun K hK=>?_;simp only[go_sem];refine VCall.frz 6 (fz155 n 59) rfl ?_;try simp only[go_sem];refine hK _ _ _ ?_;clear hK K;refine W.ret ?_;simp only[go_sem]
theorem fz95 (l:List Int) (hl:l.length<2^40):PF pg Tq 95 [.ro (l.map eIn)] (.bool (derivL l)):=by
 refine Fb ?_;unfold derivL;refine FH.of (N:=11) (rs:=#[.tmp 2]) Tryz.func95 rfl rfl (of_decide_eq_true rfl) rfl (by decide) ?_;refine W.rseq (k:=1) rfl fun K hK=>?_;simp only[go_sem];refine hK _ _ _ ?_;clear hK K
 by_cases h:(l.length:Int)≤2000
 ·have h':l.length≤2000:=by omega
  refine W.rseq (k:=9) rfl fun K hK=>?_;simp only[go_sem,h,List.length_map];refine VCall.frz 6 (fz158 l 159 [] (fun n=> !within n 59) (by omega) (fun x _=>fz159 x) (fun _=>rfl) rfl) rfl ?_;try simp only[go_sem,h,List.length_map];refine hK _ _ _ ?_;clear hK K;refine W.ret ?_;simp only[go_sem,h',decide_true]
  try first|rfl|simp_all
 ·have h':¬l.length≤2000:=by omega
  refine W.rseq (k:=9) rfl fun K hK=>?_;simp only[go_sem,h,List.length_map];refine hK _ _ _ ?_;clear hK K;refine W.ret ?_;simp only[go_sem,h',decide_false]
  try first|rfl|simp_all
theorem fz94 (l:List Int) (hl:l.length<2^40):PF pg Tq 94 [.ro (l.map eIn)] (.bool (!derivL l)):=by
 refine Fb ?_;refine FH.of (N:=6) (rs:=#[.tmp 2]) Tryz.func94 rfl rfl (of_decide_eq_true rfl) rfl (by decide) ?_;refine W.rseq (k:=1) rfl fun K hK=>?_;simp only[go_sem];refine hK _ _ _ ?_;clear hK K;refine W.rseq (k:=4) rfl fun K hK=>?_;simp only[go_sem];refine VCall.frz 6 (fz95 l hl) rfl ?_;try simp only[go_sem];refine hK _ _ _ ?_;clear hK K;refine W.ret ?_;simp only[go_sem]
theorem fz35 (sets:List (List It)) (leads:List (List Int)) (h1:sets.length<2^40) (h2:leads.length<2^40) (h3:∀s∈sets,s.length<2^40) (h4:∀l∈leads,l.length<2^40):PF pg Tq 35 [.agg [.ro (sets.map eSe),.ro (leads.map eLi)]] (.bool (rightP sets leads)):=by
 refine Fb ?_;unfold rightP;refine FH.of (N:=27) (rs:=#[.tmp 2]) Tryz.func35 rfl rfl (of_decide_eq_true rfl) rfl (by decide) ?_;refine W.rseq (k:=2) rfl fun K hK=>?_;simp only[go_sem];refine hK _ _ _ ?_;clear hK K;refine W.rseq (k:=1) rfl fun K hK=>?_;simp only[go_sem];refine hK _ _ _ ?_;clear hK K
 by_cases k1:(sets.length:Int)≤25
 ·have k1':sets.length≤25:=by omega
  by_cases k2:(leads.length:Int)≤17
  ·have k2':leads.length≤17:=by omega
   refine W.rseq (k:=24) rfl fun K hK=>?_;simp only[go_sem,k1,k2,List.length_map];refine VCall.frz 6 (fz92 sets 89 [] wrongS (by omega) (fun s hs=>fz89 s (h3 s hs)) (fun _=>rfl) rfl) rfl ?_
   cases k3:sets.any wrongS
   ·simp only[go_sem];refine VCall.frz 6 (fz93 leads 94 [] (fun l=> !derivL l) (by omega) (fun s hs=>fz94 s (h4 s hs)) (fun _=>rfl) rfl) rfl ?_;simp only[go_sem];refine hK _ _ _ ?_;refine W.ret ?_;simp only[go_sem,k1',k2',decide_true,k3]
    try first|rfl|simp_all
   ·simp only[go_sem];refine hK _ _ _ ?_;refine W.ret ?_;simp only[go_sem,k1',k2',decide_true,k3]
    try first|rfl|simp_all
  ·have k2':¬leads.length≤17:=by omega
   refine W.rseq (k:=24) rfl fun K hK=>?_;simp only[go_sem,k1,k2,List.length_map];refine hK _ _ _ ?_;clear hK K;refine W.ret ?_;simp only[go_sem,k1',k2',decide_true,decide_false]
   try first|rfl|simp_all
 ·have k1':¬sets.length≤25:=by omega
  refine W.rseq (k:=24) rfl fun K hK=>?_;simp only[go_sem,k1,List.length_map];refine hK _ _ _ ?_;clear hK K;refine W.ret ?_;simp only[go_sem,k1',decide_false]
  try first|rfl|simp_all
end Go.Av
namespace Go.Av
open Go.Proofs
set_option maxRecDepth 100000
theorem fz87 (l:List Int) (hl:l.length<2^40) (hne:l≠[]):PT pg Tq 87 [.ro (l.map eIn)] 1 (l.map eIn):=by
 have fin:FH pg Tq 87 [.ro (l.map eIn)] h0 0 fun r h _=>∃b,r=.sl b 0 l.length 1∧h b=some (.cells (l.map eIn)):=by
  obtain⟨E,hE⟩:∃E,E=l.map eIn:=⟨_,rfl⟩;have hall:(∀e∈E,e.length=1)=True:=by rw[hE];exact len_map (e:=eIn) (sz:=1) (fun _=>rfl)
  have hEl:E.length=l.length:=by rw[hE];simp
  have hEe:E.isEmpty=false:=by
   rw[hE]
   cases l with
   |nil=>exact absurd rfl hne
   |cons x r=>rfl
  have hN:isNilS (.ro E)=some false:=by
   rw[hE]
   cases l with
   |nil=>exact absurd rfl hne
   |cons x r=>rfl
  rw[←hE];refine FH.of (N:=8) (rs:=#[.tmp 2]) Tryz.func87 rfl rfl (of_decide_eq_true rfl) rfl (by decide) ?_;refine W.rseq (k:=1) rfl fun K hK=>?_;simp only[go_sem];refine hK _ _ _ ?_;clear hK K;refine W.seq ?_;refine W.rseq (k:=2) rfl fun K hK=>?_;simp only[go_sem,aopR,aopX,xBin,xEq,nilEq,hN,show isNilS .nils=some true from rfl,five,Cls.five];refine hK _ _ _ ?_;clear hK K;refine W.condF (by simp only[go_sem]) ?_;refine W.skip ?_;simp only[go_sem];refine W.rseq (k:=4) rfl fun K hK=>?_;simp only[go_sem,hall,hEl,hEe,show l.length*8≤140737488355328 by omega,show(0:Nat)<1 by omega,show(0:Nat)<8 by omega];refine hK _ _ _ ?_;clear hK K;refine W.ret ?_;simp only[go_sem]
  exact⟨_,rfl,by simp only[go_sem]⟩
 obtain⟨r,h',n',hb,b,rfl,hh⟩:=fin;exact⟨_,h',n',hb,b,by rw[List.length_map],_,hh,rfl,4,fun fr=>rfe_map fun x _=>by simp[rfs,rf,eIn]⟩
theorem fz74 (l:List Sy) (hl:l.length<2^40) (hne:l≠[]):PT pg Tq 74 [.ro (l.map eSy)] 2 (l.map eSy):=by
 have fin:FH pg Tq 74 [.ro (l.map eSy)] h0 0 fun r h _=>∃b,r=.sl b 0 l.length 2∧h b=some (.cells (l.map eSy)):=by
  obtain⟨E,hE⟩:∃E,E=l.map eSy:=⟨_,rfl⟩;have hall:(∀e∈E,e.length=2)=True:=by rw[hE];exact len_map (e:=eSy) (sz:=2) (fun _=>rfl)
  have hEl:E.length=l.length:=by rw[hE];simp
  have hEe:E.isEmpty=false:=by
   rw[hE]
   cases l with
   |nil=>exact absurd rfl hne
   |cons x r=>rfl
  have hN:isNilS (.ro E)=some false:=by
   rw[hE]
   cases l with
   |nil=>exact absurd rfl hne
   |cons x r=>rfl
  rw[←hE];refine FH.of (N:=8) (rs:=#[.tmp 2]) Tryz.func74 rfl rfl (of_decide_eq_true rfl) rfl (by decide) ?_;refine W.rseq (k:=1) rfl fun K hK=>?_;simp only[go_sem];refine hK _ _ _ ?_;clear hK K;refine W.seq ?_;refine W.rseq (k:=2) rfl fun K hK=>?_;simp only[go_sem,aopR,aopX,xBin,xEq,nilEq,hN,show isNilS .nils=some true from rfl,five,Cls.five];refine hK _ _ _ ?_;clear hK K;refine W.condF (by simp only[go_sem]) ?_;refine W.skip ?_;simp only[go_sem];refine W.rseq (k:=4) rfl fun K hK=>?_;simp only[go_sem,hall,hEl,hEe,show l.length*16≤140737488355328 by omega,show(0:Nat)<2 by omega,show(0:Nat)<16 by omega];refine hK _ _ _ ?_;clear hK K;refine W.ret ?_;simp only[go_sem]
  exact⟨_,rfl,by simp only[go_sem]⟩
 obtain⟨r,h',n',hb,b,rfl,hh⟩:=fin;exact⟨_,h',n',hb,b,by rw[List.length_map],_,hh,rfl,4,fun fr=>rfe_map fun x _=>by simp[rfs,rf,eSy]⟩
theorem fz82 (l:List It) (hl:l.length<2^40) (hne:l≠[]):PT pg Tq 82 [.ro (l.map eIt)] 3 (l.map eIt):=by
 have fin:FH pg Tq 82 [.ro (l.map eIt)] h0 0 fun r h _=>∃b,r=.sl b 0 l.length 3∧h b=some (.cells (l.map eIt)):=by
  obtain⟨E,hE⟩:∃E,E=l.map eIt:=⟨_,rfl⟩;have hall:(∀e∈E,e.length=3)=True:=by rw[hE];exact len_map (e:=eIt) (sz:=3) (fun _=>rfl)
  have hEl:E.length=l.length:=by rw[hE];simp
  have hEe:E.isEmpty=false:=by
   rw[hE]
   cases l with
   |nil=>exact absurd rfl hne
   |cons x r=>rfl
  have hN:isNilS (.ro E)=some false:=by
   rw[hE]
   cases l with
   |nil=>exact absurd rfl hne
   |cons x r=>rfl
  rw[←hE];refine FH.of (N:=8) (rs:=#[.tmp 2]) Tryz.func82 rfl rfl (of_decide_eq_true rfl) rfl (by decide) ?_;refine W.rseq (k:=1) rfl fun K hK=>?_;simp only[go_sem];refine hK _ _ _ ?_;clear hK K;refine W.seq ?_;refine W.rseq (k:=2) rfl fun K hK=>?_;simp only[go_sem,aopR,aopX,xBin,xEq,nilEq,hN,show isNilS .nils=some true from rfl,five,Cls.five];refine hK _ _ _ ?_;clear hK K;refine W.condF (by simp only[go_sem]) ?_;refine W.skip ?_;simp only[go_sem];refine W.rseq (k:=4) rfl fun K hK=>?_;simp only[go_sem,hall,hEl,hEe,show l.length*24≤140737488355328 by omega,show(0:Nat)<3 by omega,show(0:Nat)<24 by omega];refine hK _ _ _ ?_;clear hK K;refine W.ret ?_;simp only[go_sem]
  exact⟨_,rfl,by simp only[go_sem]⟩
 obtain⟨r,h',n',hb,b,rfl,hh⟩:=fin;exact⟨_,h',n',hb,b,by rw[List.length_map],_,hh,rfl,4,fun fr=>rfe_map fun x _=>by simp[rfs,rf,eIt]⟩
theorem fn82 (h:Heap) (n:Nat):FH pg Tq 82 [.nils] h n fun r h' n'=>r=.nils∧n≤n'∧∀x,x<n→h' x=h x:=by
 refine FH.of (N:=8) (rs:=#[.tmp 2]) Tryz.func82 rfl rfl (of_decide_eq_true rfl) rfl (by decide) ?_;refine W.rseq (k:=1) rfl fun K hK=>?_;simp only[go_sem];refine hK _ _ _ ?_;clear hK K;refine W.seq ?_;refine W.rseq (k:=2) rfl fun K hK=>?_;simp only[go_sem,aopR,aopX,xBin,xEq,nilEq,isNilS,five,Cls.five];refine hK _ _ _ ?_;clear hK K;refine W.condT (by simp only[go_sem]) ?_;refine W.rseq (k:=1) rfl fun K hK=>?_;simp only[go_sem];refine hK _ _ _ ?_;clear hK K;refine W.ret ?_;simp only[go_sem]
 exact⟨by omega,fun _ _=>trivial⟩
theorem fz88 (a b:List Int) (ha:a.length<2^40) (hb:b.length<2^40):PF pg Tq 88 [.ro (a.map eIn),.ro (b.map eIn)] (.bool (decide (a=b))):=by
 refine Fb ?_;refine FH.of (N:=26) (rs:=#[.tmp 4]) Tryz.func88 rfl rfl (of_decide_eq_true rfl) rfl (by decide) ?_;refine W.rseq (k:=1) rfl fun K hK=>?_;simp only[go_sem];refine hK _ _ _ ?_;clear hK K;refine W.seq ?_
 by_cases hl:a.length=b.length
 ·refine W.rseq (k:=5) rfl fun K hK=>?_;simp only[go_sem,List.length_map,hl];refine hK _ _ _ ?_;clear hK K;refine W.condF (by simp only[go_sem,hl]) ?_;refine W.skip ?_;simp only[go_sem];refine W.seq ?_;refine W.rseq (k:=3) rfl fun K hK=>?_;simp only[go_sem,List.length_map];refine hK _ _ _ ?_;clear hK K
  refine W.block (W.while (fun m t h n=>∃k:Nat,m=a.length - k∧k≤a.length∧(t 0=.ro (a.map eIn)∧t 1=.ro (b.map eIn))∧t 12=.int .i64 a.length∧t 13=.int .i64 k∧a.take k=b.take k) a.length ⟨0,by simp,by simp,⟨rfl,rfl⟩,by simp only[go_sem,List.length_map],rfl,rfl⟩ fun m t h n ⟨k,i1,i2,i3,i4,i5,i6⟩=>?_);have i3':=i3;obtain⟨a0,a1⟩:=i3';refine W.rseq (k:=1) rfl fun K hK=>?_;simp only[go_sem,i4,i5];refine hK _ _ _ ?_;clear hK K;refine W.seq ?_
  refine W.cond rfl (fun hc=>?_) fun hc=>?_
  ·refine W.skip ?_;simp only[go_sem];have hk:k<a.length:=by simp at hc;omega
   obtain⟨x,hx⟩:=get_some hk;obtain⟨y,hy⟩:=get_some (show k<b.length by omega);refine W.seq (W.block ?_);refine W.rseq (k:=2) rfl fun K hK=>?_;simp only[go_sem,i5];refine hK _ _ _ ?_;clear hK K
   by_cases hxy:x=y
   ·refine W.dseq (k:=9) rfl fun K hK=>?_;simp only[go_sem,a0,a1,hx,hy,eIn,hxy];refine hK _ _ _ _ (by kernel_rfl) ?_;clear hK K;refine W.condF (by simp only[go_sem]) ?_;refine W.skip ?_;simp only[go_sem];refine W.region (k:=2) rfl ?_;simp only[go_sem,i5]
    refine⟨a.length - (k+1),by omega,k+1,rfl,by omega,⟨a0,a1⟩,i4, ?_, ?_⟩
    ·rw[wrap64 (by omega) (by omega)];rfl
    ·rw[List.take_add_one,List.take_add_one,hx,hy,i6,hxy]
   ·refine W.dseq (k:=9) rfl fun K hK=>?_;simp only[go_sem,a0,a1,hx,hy,eIn,hxy];refine hK _ _ _ _ (by kernel_rfl) ?_;clear hK K;refine W.condT (by simp only[go_sem]) ?_;refine W.rseq (k:=1) rfl fun K hK=>?_;simp only[go_sem];refine hK _ _ _ ?_;clear hK K;refine W.ret ?_;simp only[go_sem]
    have:¬a=b:=fun e=>hxy (by rw[e,hy] at hx;exact(Option.some.inj hx).symm)
    simp[this]
  ·refine W.exit ?_;simp only[go_sem];have hk:a.length≤k:=by simp at hc;omega
   refine W.rseq (k:=1) rfl fun K hK=>?_;simp only[go_sem];refine hK _ _ _ ?_;clear hK K;refine W.ret ?_;simp only[go_sem]
   rw[List.take_of_length_le hk,List.take_of_length_le (by omega)] at i6;simp[i6]
 ·refine W.rseq (k:=5) rfl fun K hK=>?_;simp only[go_sem,List.length_map,show((a.length:Int)=(b.length:Int))=False from eq_false (by omega)];refine hK _ _ _ ?_;clear hK K;refine W.condT (by simp only[go_sem]) ?_;refine W.rseq (k:=1) rfl fun K hK=>?_;simp only[go_sem];refine hK _ _ _ ?_;clear hK K;refine W.ret ?_;simp only[go_sem]
  have:¬a=b:=fun e=>hl (by rw[e])
  simp[this]
def nxL (g:Gr) (x:It):Option Sy:=(g.prods[x.1]?).bind fun p=>p.right[x.2.1]?
def ItOk (g:Gr) (x:It):Prop:=∃p,g.prods[x.1]?=some p∧x.2.1≤p.right.length
def eNx:Option Sy→List AV
 |some s=>eSy s
 |none=>[.bool false,.int .i64 0]
theorem fz146 (g:Gr) (x:It) (hx:ItOk g x) (hs:∀p∈g.prods,p.right.length<2^40):PF pg Tq 146 [.agg (eGr g),.agg (eIt x)] (.tup [.agg (eNx (nxL g x)),.bool (nxL g x).isSome]):=by
 obtain⟨p,hp,hd⟩:=hx;have hpr:=hs p (List.mem_of_getElem? hp)
 have fin:FH pg Tq 146 [.agg (eGr g),.agg (eIt x)] h0 0 fun r h n=>r=.tup [.agg (eNx (nxL g x)),.bool (nxL g x).isSome]:=by
  refine FH.of (N:=25) (rs:=#[.cell 4 69,.tmp 5]) Tryz.func146 rfl rfl (of_decide_eq_true rfl) rfl (by decide) ?_;refine W.rseq (k:=4) rfl fun K hK=>?_;simp only[go_sem];refine hK _ _ _ ?_;clear hK K;refine W.rseq (k:=8) rfl fun K hK=>?_;simp only[go_sem,hp,ePr];refine hK _ _ _ ?_;clear hK K;refine W.seq ?_
  by_cases he:x.2.1=p.right.length
  ·refine W.rseq (k:=5) rfl fun K hK=>?_;simp only[go_sem,List.length_map,he];refine hK _ _ _ ?_;clear hK K;refine W.condT (by simp only[go_sem]) ?_;refine W.rseq (k:=3) rfl fun K hK=>?_;simp only[go_sem];refine hK _ _ _ ?_;clear hK K;refine W.ret ?_;simp only[go_sem]
   have:nxL g x=none:=by simp[nxL,hp,he]
   rw[this];rfl
  ·refine W.rseq (k:=5) rfl fun K hK=>?_;simp only[go_sem,List.length_map,show((x.2.1:Int)=(p.right.length:Int))=False from eq_false (by omega)];refine hK _ _ _ ?_;clear hK K;refine W.condF (by simp only[go_sem]) ?_;refine W.skip ?_;simp only[go_sem]
   obtain⟨s,hsx⟩:=get_some (show x.2.1<p.right.length by omega);refine W.rseq (k:=7) rfl fun K hK=>?_;simp only[go_sem,hsx];refine hK _ _ _ ?_;clear hK K;refine W.ret ?_;simp only[go_sem]
   have:nxL g x=some s:=by simp[nxL,hp,hsx]
   rw[this];rfl
 obtain⟨r,h',n',hb,rfl⟩:=fin;refine⟨_,h',n',hb,8,fun fr=>?_⟩;cases nxL g x<;>simp[rfs,rf,eNx,eSy]
def onL (x:It):It:=(x.1,x.2.1+1,x.2.2)
theorem fz149 (x:It) (hx:x.2.1<2^40):PF pg Tq 149 [.agg (eIt x)] (.agg (eIt (onL x))):=by
 have fin:FH pg Tq 149 [.agg (eIt x)] h0 0 fun r h n=>r=.agg (eIt (onL x)):=by
  refine FH.of (N:=11) (rs:=#[.cell 2 184]) Tryz.func149 rfl rfl (of_decide_eq_true rfl) rfl (by decide) ?_;refine W.rseq (k:=2) rfl fun K hK=>?_;simp only[go_sem];refine hK _ _ _ ?_;clear hK K;refine W.rseq (k:=9) rfl fun K hK=>?_;simp only[go_sem,wrap64 (show -9223372036854775808≤(x.2.1:Int)+1 by omega) (show(x.2.1:Int)+1<9223372036854775808 by omega)];refine hK _ _ _ ?_;clear hK K;refine W.ret ?_;simp only[go_sem];rfl
 obtain⟨r,h',n',hb,rfl⟩:=fin;exact⟨_,h',n',hb,3,fun fr=>by simp[rfs,rf,eIt]⟩
end Go.Av
