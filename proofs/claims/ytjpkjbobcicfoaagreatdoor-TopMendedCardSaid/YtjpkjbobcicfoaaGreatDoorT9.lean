/-
  Layer 15: are lists the same, which stands ahead; nodes. Conditions: none.
-/
import Derived.Test.YtjpkjbobcicfoaaGreatDoorT7
import Derived.Test.YtjpkjbobcicfoaaGreatDoorG1
set_option linter.unusedSimpArgs false
set_option linter.unusedVariables false
namespace Go.Av
open Go.Proofs
set_option maxRecDepth 100000
theorem fz12 (a b:List Int) (ha:a.length<2^60) (hb:b.length<2^60):PF pg Tq 12 [.ro (a.map eIn),.ro (b.map eIn)] (.bool (a==b)):=by
 refine Fb ?_;refine FH.of (N:=26) (rs:=#[.tmp 4]) Tryz.func12 rfl rfl (of_decide_eq_true rfl) rfl (by decide) ?_;refine W.rseq (k:=1) rfl fun K hK=>?_;simp only[go_sem];refine hK _ _ _ ?_;clear hK K;refine W.seq ?_;refine W.rseq (k:=5) rfl fun K hK=>?_;simp only[go_sem];refine hK _ _ _ ?_;clear hK K
 refine W.cond rfl (fun hc=>?_) fun hc=>?_
 ·refine W.rseq (k:=1) rfl fun K hK=>?_;simp only[go_sem];refine hK _ _ _ ?_;clear hK K;refine W.ret ?_;simp only[go_sem]
  have:¬a=b:=by rintro rfl;simp at hc
  simp[this]
 refine W.skip ?_;simp only[go_sem];have hl:a.length=b.length:=by simp at hc;omega
 refine W.seq ?_;refine W.rseq (k:=1) rfl fun K hK=>?_;simp only[go_sem];refine hK _ _ _ ?_;clear hK K
 refine W.block (W.while (fun m t h n=>∃k:Nat,m=a.length - k∧k≤a.length∧t 0=.ro (a.map eIn)∧t 1=.ro (b.map eIn)∧t 5=.int .i64 k∧a.take k=b.take k) a.length ⟨0,by simp,by simp,rfl,rfl,rfl,by simp⟩ fun m t h n ⟨k,e1,e2,e3,e4,e5,e6⟩=>?_);clear hc;refine W.seq ?_;refine W.rseq (k:=4) rfl fun K hK=>?_;simp only[go_sem,e3,e4,e5];refine hK _ _ _ ?_;clear hK K
 refine W.cond rfl (fun hc=>?_) fun hc=>?_
 ·refine W.skip ?_;simp only[go_sem];have hk:k<a.length:=by simp at hc;omega
  obtain⟨fa,hfa⟩:=get_some hk;obtain⟨fb,hfb⟩:=get_some (hl▸hk:k<b.length);refine W.seq (W.block ?_);refine W.dseq (k:=9) rfl fun K hK=>?_;simp only[go_sem,e3,e4,e5,hfa,hfb];refine hK _ _ _ _ (by kernel_rfl) ?_;clear hK K
  refine W.cond rfl (fun hc2=>?_) fun hc2=>?_
  ·refine W.rseq (k:=1) rfl fun K hK=>?_;simp only[go_sem];refine hK _ _ _ ?_;clear hK K;refine W.ret ?_;simp only[go_sem]
   have:¬a=b:=by
    rintro rfl
    rw[hfa] at hfb;cases hfb;simp at hc2
   simp[this]
  ·refine W.skip ?_;simp only[go_sem];refine W.region (k:=3) rfl ?_;simp only[go_sem,e5];refine⟨a.length - (k+1),by omega,k+1,rfl,by omega,e3,e4, ?_, ?_⟩
   ·rw[wrap64 (by omega) (by omega)];rfl
   ·simp at hc2;rw[List.take_add_one,List.take_add_one,e6,hfa,hfb];have:fa=fb:=by omega
    rw[this]
 ·refine W.exit ?_;simp only[go_sem];have hk:¬k<a.length:=by simp at hc;omega
  refine W.rseq (k:=1) rfl fun K hK=>?_;simp only[go_sem];refine hK _ _ _ ?_;clear hK K;refine W.ret ?_;simp only[go_sem]
  have:a=b:=by
   rw[List.take_of_length_le (by omega),List.take_of_length_le (by omega)] at e6;exact e6
  simp[this]
end Go.Av
