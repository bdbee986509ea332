/-
  Layer 22: a word is rejected. Conditions: none.
-/
import Derived.Test.YtjpkjbobcicfoaaGreatDoorEP
import Derived.Test.YtjpkjbobcicfoaaGreatDoorEJ
set_option linter.unusedSimpArgs false
set_option linter.unusedVariables false
namespace Go.Av
open Go.Proofs
set_option maxRecDepth 100000
def RejR (w:List Int) (N:Nat) (S:List (List It)) (n:Nat) (r:AV) (h':Heap) (n':Nat):Prop:=
 ∃lv f LL,r=.tup [.agg [.int .i64 2,.nils,.bool false,.int .i64 w.length,.int .u32 N,.nils],.agg [.ro (S.map eSe),lv],.bool f]∧
  SlL eLi 1 h' n n' lv LL∧LL.length≤17∧∀l∈LL,l.length≤2000
set_option maxHeartbeats 16000000 in
theorem fz32 {g:Gr} (hg:SmG g) (hG:GoodG g) {bE bM n0:Nat} {gp:AV} {h:Heap} {n:Nat} {C:Int} (hC:C≤2^40) (m:EC g bE bM gp C h n0) (hn0:n0≤n) (w:List Int) (hw:w.length≤23) (hk:KeyW w) (N:Nat) (hN:N<2^32) (S:List (List It)):
  FH pg Tq 32 [.ptr bE 0 0,.ro (w.map eIn),.int .u32 N,.ro (S.map eSe)] h n fun r h' n'=>RejR w N S n r h' n'∧EC g bE bM gp (C+60000) h' n0∧n≤n'∧∀y,y<n→y≠bE→y≠bM→h' y=h y:=by
 have mE:=m.em.lE;have mM:=m.em.lM;refine FH.of (N:=61) (rs:=#[.cell 8 37,.cell 9 41,.tmp 10]) Tryz.func32 rfl rfl (of_decide_eq_true rfl) rfl (by decide) ?_;refine W.rseq (k:=3) rfl fun K hK=>?_;simp only[go_sem];refine hK _ _ _ ?_;clear hK K;refine W.rseq (k:=4) rfl fun K hK=>?_;simp only[go_sem];refine hK _ _ _ ?_;clear hK K;refine W.rseq (k:=1) rfl fun K hK=>?_;simp only[go_sem];refine hK _ _ _ ?_;clear hK K;refine W.seqk fun K hK=>?_
 have nx0:∀(t':Fr) (h':Heap) (n':Nat) (lv:AV) (f:Bool) (LL:List (List Int)),n+8≤n'→t' 1=.ro (w.map eIn)→t' 2=.int .u32 N→t' 8=.ptr n 0 0→t' 9=.ptr (n+1) 0 0→t' 11=.ptr (n+5) 0 0→t' 12=.bool f→h' n=some (.cells [[.int .i64 0,.nils,.bool false,.int .i64 0,.int .u32 0,.nils]])→h' (n+1)=some (.cells [[.nils,.nils]])→h' (n+5)=some (.cells [[.ro (S.map eSe),lv]])→SlL eLi 1 h' (n+8) n' lv LL→LL.length≤17→(∀l∈LL,l.length≤2000)→EC g bE bM gp (C+60000) h' n0→(∀y,y<n→y≠bE→y≠bM→h' y=h y)→K t' h' n':=by
  intro t' h' n' lv f LL e0 e1 e2 e8 e9 e11 e12 k0 k1 k5 c1 c2 c3 c4 c5;refine hK _ _ _ ?_
  first|clear hK K|clear hK|skip
  have z0:∀j,¬n=n'+j:=fun j=>by omega
  have z1:∀j,¬n+1=n'+j:=fun j=>by omega
  have z5:∀j,¬n+5=n'+j:=fun j=>by omega
  have y0:∀j,(n<n'+j)=True:=fun j=>eq_true (by omega)
  have y1:∀j,(n+1<n'+j)=True:=fun j=>eq_true (by omega)
  have y5:∀j,(n+5<n'+j)=True:=fun j=>eq_true (by omega)
  have fin:∀(H:Heap) (N':Nat),n'≤N'→(∀y,y≠n→y≠n+1→H y=h' y)→RejR w N S n (.tup [.agg [.int .i64 2,.nils,.bool false,.int .i64 w.length,.int .u32 N,.nils],.agg [.ro (S.map eSe),lv],.bool f]) H N'∧EC g bE bM gp (C+60000) H n0∧n≤N'∧∀y,y<n→y≠bE→y≠bM→H y=h y:=fun H N' hn hH=>
   ⟨⟨lv,f,LL,rfl,c1.next rfl (fun x hx hx'=>hH x (by omega) (by omega)) hn (by omega),c2,c3⟩,c4.next (Nat.le_refl _) (fun y hy=>hH y (by omega) (by omega)),by omega,fun y hy q1 q2=>(hH y (by omega) (by omega)).trans (c5 y hy q1 q2)⟩
  rcases id c1 with ⟨w0,rfl⟩|⟨b,rfl,w1,w2,w3⟩
  all_goals
   refine W.dseqB (k:=9) rfl fun K hK=>?_
   refine VB.run 4 rfl ?_;simp only[go_sem,e1,e2,List.length_map];refine VB.loadR (b:=n+5) (j:=0) (off:=0) (cs':=[.ro (S.map eSe),_]) (v:=.agg [.ro (S.map eSe),_]) tabOK rfl rfl rfl rfl th41 (by simp only[go_sem,e11]) (by simp only[rdQ,k5];rfl) rfl ?_;refine VB.run 1 rfl ?_;simp only[go_sem,e12];refine VB.plainK tabOK [(n+5,.seg 0 0 2)] [] rfl rfl rfl (by simp only[go_sem,e8,k0];rfl) ⟨fun q hq=>?_,fun b hb=>(by cases hb)⟩ ?_
   ·have:q=(n+5,.seg 0 0 2):=by simpa using hq
    subst this;simp only[go_sem,show ¬n+5=n by omega]
   refine VB.run 2 rfl ?_;simp only[go_sem,e9,k1,show ¬n+1=n by omega];refine VB.nil ?_;refine hK _ _ _ _ (drawOK_re (ren1_inj (n+5)) (by simp only[List.reverse_cons,List.reverse_nil,List.nil_append,List.cons_append,List.map_cons,List.map_nil,Cls.re,ren1_at];kernel_rfl)) ?_;clear hK K;refine W.ret ?_;simp only[go_sem,e8,e9,k0,k1,show ¬n+1=n by omega];exact fin _ _ (by omega) fun y q1 q2=>by simp only[go_sem,q1,q2]
 clear hK;refine W.rseq (k:=1) rfl fun K hK=>?_;simp only[go_sem];refine hK _ _ _ ?_;clear hK K
 refine W.block (W.while (fun mm t2 h2 n2=>∃(i:Nat) (lv:AV) (f:Bool) (LL:List (List Int)),mm=17 - i∧i≤17∧n+8≤n2∧h2 n=some (.cells [[.int .i64 0,.nils,.bool false,.int .i64 0,.int .u32 0,.nils]])∧h2 (n+1)=some (.cells [[.nils,.nils]])∧h2 (n+5)=some (.cells [[.ro (S.map eSe),lv]])∧SlL eLi 1 h2 (n+8) n2 lv LL∧(LL.length≤i∧∀l∈LL,l.length≤2000)∧EC g bE bM gp (C+3000*(i:Int)) h2 n0∧(∀y,y<n→y≠bE→y≠bM→h2 y=h y)∧(t2 0=.ptr bE 0 0∧t2 1=.ro (w.map eIn)∧t2 2=.int .u32 N∧t2 8=.ptr n 0 0∧t2 9=.ptr (n+1) 0 0∧t2 11=.ptr (n+5) 0 0)∧t2 12=.bool f∧t2 18=.int .i64 i) 17
  ⟨0,.nils,true,[],rfl,by omega,by omega,by simp only[go_sem],by simp only[go_sem],by simp only[go_sem],.inl ⟨rfl,rfl⟩,⟨by simp,fun l hl=>by cases hl⟩,(m.up (by omega)).next (Nat.le_refl _) (fun y hy=>by simp only[go_sem,show ∀j,¬y=n+j from fun j=>by omega,show ¬y=n by omega]),fun y hy _ _=>by simp only[go_sem,show ∀j,¬y=n+j from fun j=>by omega,show ¬y=n by omega],⟨rfl,rfl,rfl,rfl,rfl,rfl⟩,rfl,rfl⟩ fun mm t2 h2 n2 ⟨i,lv,f,LL,i1,i2,i3,i4,i5,i6,i7,⟨i8,i9⟩,i10,i11,⟨a0,a1,a2,a8,a9,a11⟩,i12,i13⟩=>?_)
 refine W.rseq (k:=1) rfl fun K hK=>?_;simp only[go_sem,i13];refine hK _ _ _ ?_;clear hK K;refine W.seq ?_
 refine W.cond rfl (fun hc=>?_) fun hc=>?_
 ·refine W.skip ?_;simp only[go_sem];have hi:i<17:=by simp at hc;omega
  refine W.seqk fun K hK=>?_
  have nx2:∀(t3:Fr) (h3:Heap) (n3:Nat) (lv:AV) (f:Bool) (LL:List (List Int)),n+8≤n3→h3 n=some (.cells [[.int .i64 0,.nils,.bool false,.int .i64 0,.int .u32 0,.nils]])→h3 (n+1)=some (.cells [[.nils,.nils]])→h3 (n+5)=some (.cells [[.ro (S.map eSe),lv]])→SlL eLi 1 h3 (n+8) n3 lv LL→LL.length≤i+1→(∀l∈LL,l.length≤2000)→EC g bE bM gp (C+3000*((i+1:Nat):Int)) h3 n0→(∀y,y<n→y≠bE→y≠bM→h3 y=h y)→(t3 0=.ptr bE 0 0∧t3 1=.ro (w.map eIn)∧t3 2=.int .u32 N∧t3 8=.ptr n 0 0∧t3 9=.ptr (n+1) 0 0∧t3 11=.ptr (n+5) 0 0)→t3 12=.bool f→t3 18=.int .i64 i→K t3 h3 n3:=by
   intro t3 h3 n3 lv f LL d1 d2 d3 d4 d5 d6 d7 d8 d9 d10 d11 d12;refine hK _ _ _ ?_;clear hK;refine W.region (k:=2) rfl ?_;simp only[go_sem,d12];refine⟨17 - (i+1),by omega,i+1,lv,f,LL,rfl,by omega,by omega,d2,d3,d4,d5.next rfl (fun x hx hx'=>rfl) (by omega) (Nat.le_refl _),⟨d6,d7⟩,d8,d9,d10,d11, ?_⟩;rw[wrap64 (by omega) (by omega)];rfl
  clear hK;refine W.block ?_;refine W.rseq (k:=2) rfl fun K hK=>?_;simp only[go_sem,i13];refine hK _ _ _ ?_;clear hK K;refine W.seq ?_
  have hs1:=shr32 (x:=N) (show i<32 by omega);have hs2:=and32 (x:=N / 2^i) (Nat.lt_of_le_of_lt (Nat.div_le_self _ _) hN);cases hbt:N.testBit i
  ·have hb0:N / 2^i % 2=0:=by
    rw[Nat.testBit_eq_decide_div_mod_eq,decide_eq_false_iff_not] at hbt;omega
   refine W.rseq (k:=5) rfl fun K hK=>?_;simp only[go_sem,a2,hs1,hs2,hb0];refine hK _ _ _ ?_;clear hK K;refine W.condT (by simp only[go_sem]) ?_;refine W.exit ?_;simp only[go_sem]
   exact nx2 _ _ _ lv f LL (by omega) i4 i5 i6 (i7.next rfl (fun x hx hx'=>rfl) (by omega) (Nat.le_refl _)) (by omega) i9 (i10.up (by omega)) i11 ⟨a0,a1,a2,a8,a9,a11⟩ i12 i13
  ·have hb0:N / 2^i % 2=1:=by
    rw[Nat.testBit_eq_decide_div_mod_eq,decide_eq_true_iff] at hbt;exact hbt
   refine W.rseq (k:=5) rfl fun K hK=>?_;simp only[go_sem,a2,hs1,hs2,hb0];refine hK _ _ _ ?_;clear hK K;refine W.condF (by simp only[go_sem]) ?_;refine W.skip ?_;simp only[go_sem];refine W.rseq (k:=2) rfl fun K hK=>?_;simp only[go_sem];refine hK _ _ _ ?_;clear hK K;refine W.seqk fun K hK=>?_
   have nx3:∀(t3:Fr) (h3:Heap) (n3:Nat) (l:List Int) (b:Bool),n2≤n3→l.length≤2000→t3 14=.ro (l.map eIn)→t3 15=.bool b→h3 n=some (.cells [[.int .i64 0,.nils,.bool false,.int .i64 0,.int .u32 0,.nils]])→h3 (n+1)=some (.cells [[.nils,.nils]])→h3 (n+5)=some (.cells [[.ro (S.map eSe),lv]])→SlL eLi 1 h3 (n+8) n3 lv LL→EC g bE bM gp (C+3000*((i+1:Nat):Int)) h3 n0→(∀y,y<n→y≠bE→y≠bM→h3 y=h y)→(t3 0=.ptr bE 0 0∧t3 1=.ro (w.map eIn)∧t3 2=.int .u32 N∧t3 8=.ptr n 0 0∧t3 9=.ptr (n+1) 0 0∧t3 11=.ptr (n+5) 0 0)→t3 12=.bool f→t3 18=.int .i64 i→K t3 h3 n3:=by
    intro t3 h3 n3 l b d1 d2 d3 d4 d5 d6 d7 d8 d9 d10 ⟨g0,g1,g2,g8,g9,g11⟩ d12 d13;refine hK _ _ _ ?_;clear hK;obtain⟨b5,hb5⟩:∃b5,b5=n+5:=⟨_,rfl⟩;have z5:∀j,¬b5=n3+j:=fun j=>by omega
    have zN:∀j,¬n=n3+j:=fun j=>by omega
    have z1:∀j,¬n+1=n3+j:=fun j=>by omega
    rw[←hb5] at d7 g11;refine W.rseq (k:=7) rfl fun K hK=>?_
    have fin:∀(t4:Fr) (H:Heap) (N' b':Nat),n3≤N'→n3≤b'→b'<N'→H b5=some (.cells [[.ro (S.map eSe),.sl b' 0 (LL++[l]).length 1]])→H b'=some (.cells ((LL++[l]).map eLi))→(∀y,y<n3→y<n+5→H y=h3 y)→t4 15=.bool b→(t4 0=.ptr bE 0 0∧t4 1=.ro (w.map eIn)∧t4 2=.int .u32 N∧t4 8=.ptr n 0 0∧t4 9=.ptr (n+1) 0 0∧t4 11=.ptr b5 0 0)→t4 12=.bool f→t4 18=.int .i64 i→K t4 H N':=by
     intro t4 H N' b' q1 q2 q3 q4 q5 q6 q7 ⟨u0,u1,u2,u8,u9,u11⟩ q8 q9;refine hK _ _ _ ?_;clear hK;refine W.region (k:=5) rfl ?_;cases f
     all_goals
      simp only[go_sem,q7,q8];refine nx2 _ _ _ (.sl b' 0 (LL++[l]).length 1) _ (LL++[l]) (by omega) ((q6 n (by omega) (by omega)).trans d5) ((q6 (n+1) (by omega) (by omega)).trans d6) (by rw[←hb5];exact q4) (.inr ⟨b',rfl,by omega,by omega,q5⟩) (by rw[List.length_append,List.length_singleton];omega) (fun x hx=>?_) (d9.next (Nat.le_refl _) (fun y hy=>q6 y (by omega) (by omega))) (fun y hy r1 r2=>(q6 y (by omega) (by omega)).trans (d10 y hy r1 r2)) ⟨u0,u1,u2,u8,u9,by rw[←hb5];exact u11⟩ rfl q9;rcases List.mem_append.1 hx with hx|hx
      ·exact i9 x hx
      ·rw[List.mem_singleton.1 hx];exact d2
    rcases id d8 with ⟨w0,w5⟩|⟨b,w5,w1,w2,w3⟩
    ·simp only[go_sem,g11,d7,d3,z5,w5];refine fin _ _ _ (n3+4) (by omega) (by omega) (by omega) ?_ ?_ (fun y q1 q2=>?_) d4 ⟨g0,g1,g2,g8,g9,g11⟩ d12 d13
     ·simp only[go_sem];rw[w0];rfl
     ·simp only[go_sem,show ∀j,¬n3+j=b5 from fun j=>by omega];rw[w0];rfl
     ·simp only[go_sem,show ∀j,¬y=n3+j from fun j=>by omega,show ¬y=b5 by omega]
    ·have zb:∀j,¬b=n3+j:=fun j=>by omega
     have lb:∀j,(b<n3+j)=True:=fun j=>eq_true (by omega)
     have tkL:(LL.map eLi).take LL.length=LL.map eLi:=List.take_of_length_le (by simp);simp only[go_sem,g11,d7,d3,z5,w5,w3,zb,lb,tkL,List.length_map,and_false,if_false,Nat.lt_irrefl,show(LL.length+1)*24≤140737488355328 by omega,show ¬b5=b by omega];refine fin _ _ _ (n3+4) (by omega) (by omega) (by omega) ?_ ?_ (fun y q1 q2=>?_) d4 ⟨g0,g1,g2,g8,g9,g11⟩ d12 d13
     ·simp only[go_sem];rw[List.length_append];rfl
     ·simp only[go_sem,show ∀j,¬n3+j=b5 from fun j=>by omega];rw[List.map_append];rfl
     ·simp only[go_sem,show ∀j,¬y=n3+j from fun j=>by omega,show ¬y=b5 by omega,show ¬y=b by omega]
   clear hK;refine W.rseq (k:=2) rfl fun K hK=>?_;simp only[go_sem,show((i:Int)=16)=(i=16) from propext ⟨fun e=>by omega,fun e=>by omega⟩];refine hK _ _ _ ?_;clear hK K
   have keep:∀(h5:Heap) (n5:Nat),n2≤n5→(∀y,y<n2→y≠bE→y≠bM→h5 y=h2 y)→EC g bE bM gp (C+3000*((i+1:Nat):Int)) h5 n0→∀(t3:Fr) (A:Int×List Int),A.2.length≤2000→t3 14=.ro (A.2.map eIn)→t3 15=.bool (decide (A.1=0))→(t3 0=.ptr bE 0 0∧t3 1=.ro (w.map eIn)∧t3 2=.int .u32 N∧t3 8=.ptr n 0 0∧t3 9=.ptr (n+1) 0 0∧t3 11=.ptr (n+5) 0 0)→t3 12=.bool f→t3 18=.int .i64 i→K t3 h5 n5:=by
    intro h5 n5 q1 q2 q3 t3 A q4 q5 q6 q7 q8 q9;have qn:∀z,n≤z→z<n2→h5 z=h2 z:=fun z r1 r2=>q2 z r2 (by omega) (by omega)
    exact nx3 _ _ _ A.2 _ q1 q4 q5 q6 ((qn _ (by omega) (by omega)).trans i4) ((qn _ (by omega) (by omega)).trans i5) ((qn _ (by omega) (by omega)).trans i6) (i7.next rfl (fun x hx hx'=>qn x (by omega) hx') q1 (Nat.le_refl _)) q3 (fun y hy r1 r2=>(q2 y (by omega) r1 r2).trans (i11 y hy r1 r2)) q7 q8 q9
   by_cases h16:i=16
   ·refine W.condT (by simp only[go_sem,decide_eq_true h16]) ?_;refine W.region (k:=8) rfl ?_;simp only[go_sem,a0,a1];refine VCall.heap (fz86 hg hG (by omega) i10 (by omega) w (by omega) hk _ (.inl rfl) 0) fun r h5 n5 ⟨l,r1,r2,r3,r4,r5⟩=>?_
    subst r2;simp only[go_sem];exact keep _ _ (by omega) (fun y q1 q2 q3=>r5 y (by omega) q2 q3) (r3.up (by omega)) _ _ by_len rfl rfl ⟨a0,a1,a2,a8,a9,a11⟩ i12 i13
   ·refine W.condF (by simp only[go_sem,decide_eq_false h16]) ?_
    have hku:KeyW (w++[(i:Int)]):=⟨by rw[List.length_append,List.length_singleton];omega,fun t ht=>by
     rcases List.mem_append.1 ht with ht|ht
     ·exact hk.2 t ht
     ·rw[List.mem_singleton.1 ht];omega⟩
    have hul:(w++[(i:Int)]).length≤24:=by rw[List.length_append,List.length_singleton];omega
    refine W.region (k:=12) rfl ?_;simp only[go_sem,a0,a1];by_cases hwe:w=[]
    ·subst hwe;refine VCall.heap (fe87 _ _) fun r h5 n5 ⟨r1,r2,r3⟩=>?_
     subst r1 r2 r3;simp only[go_sem];refine VCall.heap (fz86 hg hG (by omega) (i10.next (Nat.le_refl _) (fun y hy=>?_)) (by omega) ([]++[(i:Int)]) hul hku _ (.inr ⟨n2+17,rfl,by omega, ?_⟩) 2) fun r h5 n5 ⟨l,r1,r2,r3,r4,r5⟩=>?_
     ·simp only[go_sem,show ∀j,¬y=n2+j from fun j=>by omega]
     ·simp only[go_sem];rfl
     subst r2;simp only[go_sem];refine keep _ _ (by omega) (fun y q1 q2 q3=>(r5 y (by omega) q2 q3).trans ?_) (r3.up (by omega)) _ _ by_len rfl rfl ⟨a0,a1,a2,a8,a9,a11⟩ i12 i13;simp only[go_sem,show ∀j,¬y=n2+j from fun j=>by omega]
    ·refine VCall.own 6 (fz87 w (by omega) hwe) (rfs_cons (by simp[rf]) rfs_nil) ?_;simp only[go_sem,List.length_map,and_false,if_false,show(w.length+1)*8≤140737488355328 by omega];refine VCall.heap (fz86 hg hG (by omega) (i10.next (Nat.le_refl _) (fun y hy=>?_)) (by omega) (w++[(i:Int)]) hul hku _ (.inr ⟨n2+17,by rw[List.length_append,List.length_singleton],by omega, ?_⟩) 2) fun r h5 n5 ⟨l,r1,r2,r3,r4,r5⟩=>?_
     ·simp only[go_sem,show ∀j,¬y=n2+j from fun j=>by omega]
     ·simp only[go_sem];rw[List.map_append];rfl
     subst r2;simp only[go_sem];refine keep _ _ (by omega) (fun y q1 q2 q3=>(r5 y (by omega) q2 q3).trans ?_) (r3.up (by omega)) _ _ by_len rfl rfl ⟨a0,a1,a2,a8,a9,a11⟩ i12 i13;simp only[go_sem,show ∀j,¬y=n2+j from fun j=>by omega]
 ·refine W.exit ?_;simp only[go_sem];exact nx0 _ _ _ lv f LL (by omega) a1 a2 a8 a9 a11 i12 i4 i5 i6 (i7.next rfl (fun x hx hx'=>rfl) (by omega) (Nat.le_refl _)) (by omega) i9 (i10.up (by omega)) i11
end Go.Av
