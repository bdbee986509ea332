/-
  Layer 22: a word is parsed. Conditions: none.
-/
import Derived.Test.YtjpkjbobcicfoaaGreatDoorEQ
set_option linter.unusedSimpArgs false
set_option linter.unusedVariables false
namespace Go.Av
open Go.Proofs
set_option maxRecDepth 100000
def OkA (g:Gr) (w:List Int) (Ss:List (List It)) (l:List (Nat→Nat)):Prop:=
 (byL g w 0 l).1=0∧(byL g w 1 l).1=0∧((byL g w 0 l).2=(byL g w 1 l).2→rightP Ss []=true)∧((byL g w 0 l).2≠(byL g w 1 l).2→rightP [] [(byL g w 1 l).2]=true)
def ParR (g:Gr) (w:List Int) (Ss:List (List It)) (n:Nat) (r:AV) (h':Heap) (n':Nat):Prop:=
 ((fitsW g w=false∨w.length=24)∧r=.tup [.agg [.int .i64 0,.nils,.bool false,.int .i64 0,.int .u32 0,.nils],.agg [.nils,.nils],.int .i64 1])∨
 (fitsW g w=true∧(Der g w [⟨true,g.start⟩] 0 w.length→∀l,RowsC g w l→¬OkA g w Ss l)∧r=.tup [.agg [.int .i64 4,.nils,.bool false,.int .i64 0,.int .u32 0,.nils],.agg [.nils,.nils],.int .i64 0])∨
 (fitsW g w=true∧¬Der g w [⟨true,g.start⟩] 0 w.length∧∃(a N:Nat) (S:List (List It)) (lv:AV),r=.tup [.agg [.int .i64 2,.nils,.bool false,.int .i64 a,.int .u32 N,.nils],.agg [.ro (S.map eSe),lv],.int .i64 0]∧(lv=.nils∨∃b l,lv=.sl b 0 l 1))∨
 (fitsW g w=true∧∃l,RowsC g w l∧OkA g w Ss l∧∃sv lv,r=.tup [.agg [.int .i64 1,.ro ((byL g w 0 l).2.map eIn),.bool (decide ((byL g w 0 l).2=(byL g w 1 l).2)),.int .i64 0,.int .u32 0,.nils],.agg [sv,lv],.int .i64 0]∧
   ((byL g w 0 l).2=(byL g w 1 l).2→sv=.ro (Ss.map eSe)∧lv=.nils)∧
   ((byL g w 0 l).2≠(byL g w 1 l).2→sv=.nils∧∃b,lv=.sl b 0 1 1∧n≤b∧b<n'∧h' b=some (.cells [[.ro ((byL g w 1 l).2.map eIn)]])))
theorem sets_of (g:Gr) (hg:SmG g) (w:List Int):∃Ss,fitG g w=true→PF pg Tq 30 [.agg (eGr g),.ro (w.map eIn)] (.ro (Ss.map eSe))∧ChartC g w Ss:=by
 cases hf:fitG g w
 ·exact⟨[],fun q=>by cases q⟩
 ·obtain⟨S,hS⟩:=fz30 g hg w hf;exact⟨S,fun _=>hS⟩
set_option maxHeartbeats 32000000 in
theorem fz10 {g:Gr} (hg:SmG g) (hck:(checkL g).2=0) {bE bM n0:Nat} {gp:AV} {h:Heap} {n:Nat} (m:EM g bE bM gp h n0) (hn0:n0≤n) (w:List Int) (hw:w.length<2^40) (Ss:List (List It)) (hSs:fitG g w=true→PF pg Tq 30 [.agg (eGr g),.ro (w.map eIn)] (.ro (Ss.map eSe))∧ChartC g w Ss):
  FH pg Tq 10 [.ptr bE 0 0,.ro (w.map eIn),.int .i64 1099511627776] h n fun r h' n'=>ParR g w Ss n r h' n'∧EM g bE bM gp h' n0∧n≤n'∧∀y,y<n→y≠bE→y≠bM→h' y=h y:=by
 obtain⟨c,hE,hgp⟩:=m.args;have mE:=m.lE;have mM:=m.lM;have mne:=m.ne;have kE:∀(H:Heap),(∀y,y<n→H y=h y)→EM g bE bM gp H n0:=fun H hH=>m.next (Nat.le_refl _) fun y hy=>hH y (by omega)
 refine FH.of (N:=102) (rs:=#[.cell 6 37,.cell 7 41,.tmp 8]) Tryz.func10 rfl rfl (of_decide_eq_true rfl) rfl (by decide) ?_;refine W.rseq (k:=3) rfl fun K hK=>?_;simp only[go_sem];refine hK _ _ _ ?_;clear hK K
 have zn:∀y,y<n→∀j,¬y=n+j:=fun y hy j=>by omega
 have hE0:∀o1 o2,(upd (upd h n o1) (n+1) o2) bE=some (.cells [[.int .i64 g.terms,.int .i64 g.nons,.int .i64 g.start,gp,.mp bM,.int .i64 c]]):=fun o1 o2=>by
  rw[upd_app,if_neg (by omega),upd_app,if_neg (by omega)];exact hE
 have hg0:∀o1 o2,rf true 8 (upd (upd h n o1) (n+1) o2) gp=some (.ro (g.prods.map ePr)):=fun o1 o2=>hgp _ (fun y hy _ _=>by rw[upd_app,if_neg (by omega),upd_app,if_neg (by omega)]) true
 refine W.seq ?_;refine W.rseq (k:=16) rfl fun K hK=>?_;simp only[go_sem,hE,zn bE (by omega),show ¬bE=n by omega,show ¬bE=n+1 by omega]
 refine VCall.frzq (as':=[.agg (eGr g),.ro (w.map eIn)]) 11 (rfs_cons (rf_agg (hg0 _ _)) (rfs_cons (by simp[rf]) rfs_nil)) (fz28 g w hw) ?_
 have bad:(fitsW g w=false∨w.length=24)→∀(H:Heap) (N':Nat),n≤N'→(∀y,y<n→H y=h y)→ParR g w Ss n (.tup [.agg [.int .i64 0,.nils,.bool false,.int .i64 0,.int .u32 0,.nils],.agg [.nils,.nils],.int .i64 1]) H N'∧EM g bE bM gp H n0∧n≤N'∧∀y,y<n→y≠bE→y≠bM→H y=h y:=fun q H N' hN hH=>
  ⟨.inl ⟨q,rfl⟩,kE H hH,hN,fun y hy _ _=>hH y hy⟩
 cases hf:fitsW g w
 ·simp only[go_sem];refine hK _ _ _ ?_
  first|clear hK K|clear hK|skip
  refine W.condT (by simp only[go_sem]) ?_;refine W.rseq (k:=5) rfl fun K hK=>?_;simp only[go_sem];refine hK _ _ _ ?_;clear hK K;refine W.ret ?_;simp only[go_sem]
  exact bad (.inl hf) _ _ (by omega) fun y hy=>by simp only[go_sem,zn y hy,show ¬y=n by omega]
 by_cases h24:w.length=24
 ·simp only[go_sem,List.length_map,h24];refine hK _ _ _ ?_
  first|clear hK K|clear hK|skip
  refine W.condT (by simp only[go_sem]) ?_;refine W.rseq (k:=5) rfl fun K hK=>?_;simp only[go_sem];refine hK _ _ _ ?_;clear hK K;refine W.ret ?_;simp only[go_sem]
  exact bad (.inr h24) _ _ (by omega) fun y hy=>by simp only[go_sem,zn y hy,show ¬y=n by omega]
 ·simp only[go_sem,List.length_map,show((w.length:Int)=24)=False from eq_false (by omega)];refine hK _ _ _ ?_
  first|clear hK K|clear hK|skip
  refine W.condF (by simp only[go_sem]) ?_;refine W.skip ?_;simp only[go_sem];have hfg:fitG g w=true:=by rw[fitG,hf,decide_eq_true hck];rfl
  have hw24:=fit_len hfg;have htok:=fit_tok hfg;have hkw:KeyW w:=⟨hw24,fun t ht=>by have:=htok t ht;omega⟩;have hG:=fit_good hfg;obtain⟨hP,C⟩:=hSs hfg;obtain⟨r6,hQ,hr6⟩:=fz31 g hg w hfg;have hsl:=C.len;refine W.rseq (k:=4) rfl fun K hK=>?_;simp only[go_sem,hE,zn bE (by omega),show ¬bE=n by omega,show ¬bE=n+1 by omega];refine hK _ _ _ ?_;clear hK K;refine W.rseq (k:=3) rfl fun K hK=>?_;simp only[go_sem]
  refine VCall.heap (fz29 hg (C:=0) (by omega) (EM.ec (h:=upd (upd h n _) (n+1) _) (kE _ (fun y hy=>by simp only[go_sem,zn y hy,show ¬y=n by omega])) (c':=0) (by omega) (by omega)) (by omega) w (by omega) hkw _ (.inl rfl)) fun r h4 n4 ⟨l0,r1,r2,r3,r4,r5⟩=>?_
  simp only[go_sem];refine hK _ _ _ ?_
  first|clear hK K|clear hK|skip
  obtain⟨c4,hE4,_,hg4⟩:=r3.args
  have k0:h4 n=some (.cells [[.int .i64 0,.nils,.bool false,.int .i64 0,.int .u32 0,.nils]]):=by
   refine(r5 n (by omega) (by omega) (by omega)).trans ?_;simp only[go_sem,show ¬n=bE by omega]
  have k1:h4 (n+1)=some (.cells [[.nils,.nils]]):=by
   refine(r5 (n+1) (by omega) (by omega) (by omega)).trans ?_;simp only[go_sem,show ¬n+1=bE by omega]
  have kf:∀y,y<n→y≠bE→y≠bM→h4 y=h y:=fun y q1 q2 q3=>by
   refine(r5 y (by omega) q2 q3).trans ?_;simp only[go_sem,q2,zn y q1,show ¬y=n by omega]
  have zE:∀j,¬bE=n4+j:=fun j=>by omega
  have harg:rfs true 11 h4 [.agg [.int .i64 g.terms,.int .i64 g.nons,.int .i64 g.start,gp],.ro (w.map eIn)]=some [.agg (eGr g),.ro (w.map eIn)]:=rfs_cons (rf_agg (hg4 _ (fun _ _ _ _=>rfl) true)) (rfs_cons (by simp[rf]) rfs_nil);refine W.rseq (k:=7) rfl fun K hK=>?_;simp only[go_sem,hE4,zE]
  refine VCall.frzq (as':=[.agg (eGr g),.ro (w.map eIn)]) 11 harg hP ?_
  try simp only[go_sem,hE4,zE];refine hK _ _ _ ?_;clear hK K
  have hr6':∃(a N:Nat) (s:Bool),r6=.tup [.int .i64 a,.int .u32 N,.bool s]∧(s=true→a≤w.length∧N<2^17∧¬Der g w [⟨true,g.start⟩] 0 w.length):=by
   rcases hr6 with rfl|⟨a,N,rfl,q⟩
   ·exact⟨0,0,false,rfl,fun q=>by cases q⟩
   ·exact⟨a,N,true,rfl,fun _=>q⟩
  obtain⟨a,N,s,rfl,hs⟩:=hr6';refine W.rseq (k:=13) rfl fun K hK=>?_;simp only[go_sem,hE4,zE]
  refine VCall.frzq (as':=[.agg (eGr g),.ro (w.map eIn)]) 11 harg hQ ?_
  try simp only[go_sem,hE4,zE];refine hK _ _ _ ?_;clear hK K;refine W.rseq (k:=1) rfl fun K hK=>?_;simp only[go_sem];refine hK _ _ _ ?_;clear hK K;refine W.rseq (k:=1) rfl fun K hK=>?_;simp only[go_sem];refine hK _ _ _ ?_;clear hK K;refine W.rseq (k:=1) rfl fun K hK=>?_;simp only[go_sem];refine hK _ _ _ ?_;clear hK K;refine W.seqk fun K hK=>?_
  have nxF:∀(t5:Fr) (h5:Heap) (n5 bv bp:Nat) (tv sv lv:AV) (k at' N5:Int) (sb f:Bool) (S:List (List It)) (LL:List (List Int)),bv=n4+20→bp=n4+21→n4+22≤n5→(t5 0=.ptr bE 0 0∧t5 2=.int .i64 1099511627776∧t5 6=.ptr n 0 0∧t5 7=.ptr (n+1) 0 0∧t5 13=.ptr bv 0 0∧t5 14=.ptr bp 0 0∧t5 15=.bool f)→h5 n=some (.cells [[.int .i64 0,.nils,.bool false,.int .i64 0,.int .u32 0,.nils]])→h5 (n+1)=some (.cells [[.nils,.nils]])→h5 bv=some (.cells [[.int .i64 k,tv,.bool sb,.int .i64 at',.int .u32 N5,.nils]])→h5 bp=some (.cells [[sv,lv]])→
    (tv=.nils∨∃e,tv=.ro e)→(sv=.nils∨∃e,sv=.ro e)→(lv=.nils∨∃b o l s,lv=.sl b o l s)→rf true 8 h5 sv=some (.ro (S.map eSe))→rf true 8 h5 lv=some (.ro (LL.map eLi))→S.length<2^40→LL.length<2^40→(∀s∈S,s.length<2^40)→(∀l∈LL,l.length<2^40)→EC g bE bM gp 1000000 h5 n0→(∀y,y<n→y≠bE→y≠bM→h5 y=h y)→
    ((f=false∨rightP S LL=false)→Der g w [⟨true,g.start⟩] 0 w.length→∀l,RowsC g w l→¬OkA g w Ss l)→(f=true→rightP S LL=true→∀H N',n5≤N'→(∀y,y≠n→y≠n+1→H y=h5 y)→ParR g w Ss n (.tup [.agg [.int .i64 k,tv,.bool sb,.int .i64 at',.int .u32 N5,.nils],.agg [sv,lv],.int .i64 0]) H N')→K t5 h5 n5:=by
   intro t5 h5 n5 bv bp tv sv lv k at' N5 sb f S LL hbv hbp e1 ⟨a0,a2,a6,a7,a13,a14,a15⟩ j0 j1 j2 j3 htv hsv hlv hS hL hS1 hL1 hS2 hL2 hm hfr hno hfin;refine hK _ _ _ ?_;clear hK;obtain⟨c5,hE5,⟨hc0,hc1⟩,_⟩:=hm.args;have zE5:∀j,¬bE=n5+j:=fun j=>by omega
   have zn5:∀j,¬n=n5+j:=fun j=>by omega
   have zm5:∀j,¬n+1=n5+j:=fun j=>by omega
   have zp5:∀j,¬bp=n5+j:=fun j=>by omega
   have harg:rfs true 11 h5 [.agg [sv,lv]]=some [.agg [.ro (S.map eSe),.ro (LL.map eLi)]]:=rfs_cons (by rw[rf,rfs_cons (rf_up (show 8≤8 by omega) hS) (rfs_cons hL rfs_nil)]) rfs_nil
   have hlim:(f=false∨rightP S LL=false)→∀(H:Heap) (N':Nat),n≤N'→(∀y,y≠n→y≠n+1→H y=h5 y)→ParR g w Ss n (.tup [.agg [.int .i64 4,.nils,.bool false,.int .i64 0,.int .u32 0,.nils],.agg [.nils,.nils],.int .i64 0]) H N'∧EM g bE bM gp H n0∧n≤N'∧∀y,y<n→y≠bE→y≠bM→H y=h y:=fun q0 H N' q1 q2=>
    ⟨.inr (.inl ⟨hf,hno q0,rfl⟩),hm.em.next (Nat.le_refl _) (fun y hy=>q2 y (by omega) (by omega)),q1,fun y hy r1 r2=>(q2 y (by omega) (by omega)).trans (hfr y hy r1 r2)⟩
   refine W.seq ?_;cases f
   ·refine W.rseq (k:=15) rfl fun K hK=>?_;simp only[go_sem,a15];refine hK _ _ _ ?_;clear hK K;refine W.condT (by simp only[go_sem]) ?_;refine W.rseq (k:=5) rfl fun K hK=>?_;simp only[go_sem,a6,a7,j0,j1,zn5,zm5,show ¬n+1=n by omega];refine hK _ _ _ ?_;clear hK K;refine W.ret ?_;simp only[go_sem,a6,a7,j0,j1,show ¬n+1=n by omega]
    exact hlim (.inl rfl) _ _ (by omega) fun y q1 q2=>by simp only[go_sem,q1,q2]
   ·refine W.rseq (k:=15) rfl fun K hK=>?_;simp only[go_sem,a15,a0,a2,a14,hE5,zE5,j3,zp5,show((1099511627776:Int)<c5)=False from eq_false (by omega)]
    refine VCall.frzq (as':=[.agg [.ro (S.map eSe),.ro (LL.map eLi)]]) 11 harg (fz35 S LL hS1 hL1 hS2 hL2) ?_;cases hrp:rightP S LL
    ·simp only[go_sem];refine hK _ _ _ ?_
     first|clear hK K|clear hK|skip
     refine W.condT (by simp only[go_sem]) ?_;refine W.rseq (k:=5) rfl fun K hK=>?_;simp only[go_sem,a6,a7,j0,j1,zn5,zm5,show ¬n+1=n by omega];refine hK _ _ _ ?_;clear hK K;refine W.ret ?_;simp only[go_sem,a6,a7,j0,j1,show ¬n+1=n by omega]
     exact hlim (.inr hrp) _ _ (by omega) fun y q1 q2=>by simp only[go_sem,q1,q2]
    ·simp only[go_sem];refine hK _ _ _ ?_
     first|clear hK K|clear hK|skip
     refine W.condF (by simp only[go_sem]) ?_;refine W.skip ?_;simp only[go_sem]
     have hend:∀(H:Heap) (N':Nat),n5≤N'→(∀y,y≠n→y≠n+1→H y=h5 y)→ParR g w Ss n (.tup [.agg [.int .i64 k,tv,.bool sb,.int .i64 at',.int .u32 N5,.nils],.agg [sv,lv],.int .i64 0]) H N'∧EM g bE bM gp H n0∧n≤N'∧∀y,y<n→y≠bE→y≠bM→H y=h y:=fun H N' q1 q2=>
      ⟨hfin rfl hrp H N' q1 q2,hm.em.next (Nat.le_refl _) (fun y hy=>q2 y (by omega) (by omega)),by omega,fun y hy r1 r2=>(q2 y (by omega) (by omega)).trans (hfr y hy r1 r2)⟩
     have zv5:∀j,¬bv=n5+j:=fun j=>by omega
     clear hfin hlim harg hno;rcases htv with rfl|⟨et,rfl⟩<;>rcases hsv with rfl|⟨es,rfl⟩<;>rcases hlv with rfl|⟨bl,ol,ll,sl,rfl⟩
     all_goals
      refine W.dseqB (k:=5) rfl fun K hK=>?_
      refine VB.run 1 rfl ?_;simp only[go_sem,a13,j2,zv5,show ∀j,(bv<n5+j)=True from fun j=>eq_true (by omega)];refine VB.loadR (b:=bp) (j:=0) (off:=0) (cs':=[_,_]) (v:=.agg [_,_]) tabOK rfl rfl rfl rfl th41 (by simp only[go_sem,a14]) (by simp only[rdQ,j3];rfl) rfl ?_;refine VB.plainK tabOK [(bp,.seg 0 0 2)] [] rfl rfl rfl (by simp only[go_sem,a6,j0];rfl) ⟨fun q hq=>?_,fun b hb=>(by cases hb)⟩ ?_
      ·have:q=(bp,.seg 0 0 2):=by simpa using hq
       subst this;simp only[go_sem,show ¬bp=n by omega]
      refine VB.run 2 rfl ?_;simp only[go_sem,a7,j1,show ¬n+1=n by omega];refine VB.nil ?_;refine hK _ _ _ _ (drawOK_re (ren1_inj bp) (by simp only[List.reverse_cons,List.reverse_nil,List.nil_append,List.cons_append,List.map_cons,List.map_nil,Cls.re,ren1_at];kernel_rfl)) ?_;clear hK K;refine W.ret ?_;simp only[go_sem,a6,a7,j0,j1,show ¬n+1=n by omega];exact hend _ _ (by omega) fun y q1 q2=>by simp only[go_sem,q1,q2]
  clear hK
  have hsS:∀s∈Ss,s.length<2^40:=fun s hs=>by
   obtain⟨i,hi⟩:=List.mem_iff_getElem?.1 hs;have h2:=C.bnd i;have h3:bg Ss i=s:=by unfold bg;rw[List.getD_eq_getElem?_getD,hi];rfl
   rw[h3] at h2;omega
  have hm4:∀(o1 o2:Option AO),EC g bE bM gp (0+25) (upd (upd h4 (n4+20) o1) (n4+21) o2) n0:=fun o1 o2=>r3.next (Nat.le_refl _) fun y hy=>by rw[upd_app,if_neg (by omega),upd_app,if_neg (by omega)]
  have zv:∀y,y<n4+23→∀j,¬y=n4+23+j:=fun y hy j=>by omega
  refine W.rseq (k:=1) rfl fun K hK=>?_;simp only[go_sem];refine hK _ _ _ ?_;clear hK K
  cases s
  ·refine W.condF (by simp only[go_sem]) ?_;refine W.region (k:=13) rfl ?_;simp only[go_sem];refine VCall.heap (fz33 (by omega) (hm4 _ _) (by omega) Ss (by omega) C.bnd) fun r h6 n6 ⟨q1,q2,q3,q4⟩=>?_
   subst q1;simp only[go_sem];refine VCall.heap (fz34 hg hG (by omega) q2 (by omega) w (by omega) hkw Ss) fun r h7 n7 ⟨l,p1,⟨sv,lv,p2,p3,p4⟩,p5,p6,p7⟩=>?_
   subst p2
   have kv:h7 (n4+20)=some (.cells [[.int .i64 0,.nils,.bool false,.int .i64 0,.int .u32 0,.nils]]):=by
    refine(p7 _ (by omega) (by omega) (by omega)).trans ((q4 _ (by omega)).trans ?_);simp only[go_sem]
   have kp:h7 (n4+21)=some (.cells [[.nils,.nils]]):=by
    refine(p7 _ (by omega) (by omega) (by omega)).trans ((q4 _ (by omega)).trans ?_);simp only[go_sem]
   have kk:∀y,y<n4→y≠bE→y≠bM→h7 y=h4 y:=fun y q1 q2 q3=>by
    refine(p7 _ (by omega) q2 q3).trans ((q4 _ q2).trans ?_);simp only[go_sem,show ∀j,¬y=n4+j from fun j=>by omega]
   obtain⟨A,hA⟩:∃A,A=byL g w 0 l:=⟨_,rfl⟩;obtain⟨B,hB⟩:∃B,B=byL g w 1 l:=⟨_,rfl⟩;have hAl:A.2.length≤2000:=by rw[hA];exact by_len
   have hBl:B.2.length≤2000:=by rw[hB];exact by_len
   rw[←hA,←hB] at p3 p4;rw[←hA,←hB];by_cases he:A.2=B.2
   ·obtain⟨rfl,rfl⟩:=p3 he;simp only[go_sem,kv,kp,show ¬n4+21=n4+20 by omega];refine nxF _ _ _ (n4+20) (n4+21) (.ro (A.2.map eIn)) (.ro (Ss.map eSe)) .nils 1 0 0 (decide (A.2=B.2)) (decide (A.1=0) && decide (B.1=0)) Ss [] rfl rfl (by omega) ⟨rfl,rfl,rfl,rfl,rfl,rfl,rfl⟩ ?_ ?_ ?_ ?_ (.inr ⟨_,rfl⟩) (.inr ⟨_,rfl⟩) (.inl rfl) (by simp[rf]) (by simp[rf]) (by omega) (by simp) hsS (fun l hl=>by cases hl) ?_ ?_ ?_ ?_
    ·simp only[go_sem,show ¬n=n4+20 by omega,show ¬n=n4+21 by omega];exact(kk n (by omega) (by omega) (by omega)).trans k0
    ·simp only[go_sem,show ¬n+1=n4+20 by omega,show ¬n+1=n4+21 by omega];exact(kk (n+1) (by omega) (by omega) (by omega)).trans k1
    ·simp only[go_sem,show ¬n4+20=n4+21 by omega]
    ·simp only[go_sem]
    ·exact(p5.up (by omega)).next (Nat.le_refl _) fun y hy=>by simp only[go_sem,show ¬y=n4+20 by omega,show ¬y=n4+21 by omega]
    ·intro y hy r1 r2;simp only[go_sem,show ¬y=n4+20 by omega,show ¬y=n4+21 by omega];exact(kk y (by omega) r1 r2).trans (kf y hy r1 r2)
    ·intro q _ l' hl' hok;have:=hl'.uniq p1;subst this;obtain⟨o1,o2,o3,_⟩:=hok;rw[←hA] at o1 o3;rw[←hB] at o2 o3;rcases q with q|q
     ·simp[o1,o2] at q
     ·rw[o3 he] at q;cases q
    ·intro hft hrp H N' r1 r2;obtain⟨hf1,hf2⟩:A.1=0∧B.1=0:=by simpa using hft
     subst hA hB;exact .inr (.inr (.inr ⟨hf,l,p1,⟨hf1,hf2,fun _=>hrp,fun q=>absurd he q⟩,_,_,rfl,fun _=>⟨rfl,rfl⟩,fun q=>absurd he q⟩))
   ·obtain⟨rfl,b,rfl,b1,b2,b3⟩:=p4 he;simp only[go_sem,kv,kp,show ¬n4+21=n4+20 by omega];refine nxF _ _ _ (n4+20) (n4+21) (.ro (A.2.map eIn)) .nils (.sl b 0 1 1) 1 0 0 (decide (A.2=B.2)) (decide (A.1=0) && decide (B.1=0)) [] [B.2] rfl rfl (by omega) ⟨rfl,rfl,rfl,rfl,rfl,rfl,rfl⟩ ?_ ?_ ?_ ?_ (.inr ⟨_,rfl⟩) (.inl rfl) (.inr ⟨_,_,_,_,rfl⟩) (by simp[rf]) ?_ (by simp) (by simp) (fun s hs=>by cases hs) (fun l hl=>by rw[List.mem_singleton.1 hl];omega) ?_ ?_ ?_ ?_
    ·simp only[go_sem,show ¬n=n4+20 by omega,show ¬n=n4+21 by omega];exact(kk n (by omega) (by omega) (by omega)).trans k0
    ·simp only[go_sem,show ¬n+1=n4+20 by omega,show ¬n+1=n4+21 by omega];exact(kk (n+1) (by omega) (by omega) (by omega)).trans k1
    ·simp only[go_sem,show ¬n4+20=n4+21 by omega]
    ·simp only[go_sem]
    ·refine rf_sla (d:=7) (es:=[[.ro (B.2.map eIn)]]) ?_ rfl (by simp[rfe,rfs,rf,eLi]);simp only[go_sem,show ¬b=n4+20 by omega,show ¬b=n4+21 by omega];exact b3
    ·exact(p5.up (by omega)).next (Nat.le_refl _) fun y hy=>by simp only[go_sem,show ¬y=n4+20 by omega,show ¬y=n4+21 by omega]
    ·intro y hy r1 r2;simp only[go_sem,show ¬y=n4+20 by omega,show ¬y=n4+21 by omega];exact(kk y (by omega) r1 r2).trans (kf y hy r1 r2)
    ·intro q _ l' hl' hok;have:=hl'.uniq p1;subst this;obtain⟨o1,o2,_,o3⟩:=hok;rw[←hA] at o1 o3;rw[←hB] at o2 o3;rcases q with q|q
     ·simp[o1,o2] at q
     ·rw[o3 he] at q;cases q
    ·intro hft hrp H N' r1 r2;obtain⟨hf1,hf2⟩:A.1=0∧B.1=0:=by simpa using hft
     subst hA hB;refine .inr (.inr (.inr ⟨hf,l,p1,⟨hf1,hf2,fun q=>absurd q he,fun _=>hrp⟩,_,_,rfl,fun q=>absurd q he,fun _=>⟨rfl,b,rfl,by omega,by omega, ?_⟩⟩));refine(r2 b (by omega) (by omega)).trans ?_;simp only[go_sem,show ¬b=n4+20 by omega,show ¬b=n4+21 by omega];exact b3
  ·refine W.condT (by simp only[go_sem]) ?_;obtain⟨ha,hN,hD⟩:=hs rfl
   have hStk:∀i,(bg (Ss.take (a+1)) i).length≤15000:=fun i=>by
    by_cases hi:i<a+1
    ·have:=C.bnd i;unfold bg at this ⊢;rw[List.getD_eq_getElem?_getD,List.getElem?_take_of_lt hi,←List.getD_eq_getElem?_getD];exact this
    ·unfold bg;rw[List.getD_eq_getElem?_getD,List.getElem?_eq_none (by rw[List.length_take];omega)];exact Nat.zero_le _
   have hle1:(∀e∈w.map eIn,e.length=1)=True:=len_map (e:=eIn) (sz:=1) fun _=>rfl
   have hle2:(∀e∈Ss.map eSe,e.length=1)=True:=len_map (e:=eSe) (sz:=1) fun _=>rfl
   refine W.draw (k:=19) rfl ?_;simp only[go_sem,List.length_map,ha,hle1,hle2,←List.map_take,Nat.zero_le,Nat.sub_zero,show((a:Int)+1).toNat=a+1 by omega,show(0:Int)≤(a:Int)+1 by omega,show a+1≤Ss.length by omega,wrap64 (show -9223372036854775808≤(a:Int)+1 by omega) (show(a:Int)+1<9223372036854775808 by omega)];refine VCall.heap (fz33 (by omega) (hm4 _ _) (by omega) (Ss.take (a+1)) (by rw[List.length_take];omega) hStk) fun r h6 n6 ⟨q1,q2,q3,q4⟩=>?_
   subst q1;simp only[go_sem];refine VCall.heap (fz32 hg hG (by omega) q2 (by omega) (w.take a) (by rw[List.length_take];omega) ⟨by rw[List.length_take];omega,fun t ht=>hkw.2 t (List.mem_of_mem_take ht)⟩ N (by omega) (Ss.take (a+1))) fun r h7 n7 ⟨⟨lv,f,LL,p2,p3,p4,p4'⟩,p5,p6,p7⟩=>?_
   subst p2
   have kv:h7 (n4+20)=some (.cells [[.int .i64 0,.nils,.bool false,.int .i64 0,.int .u32 0,.nils]]):=by
    refine(p7 _ (by omega) (by omega) (by omega)).trans ((q4 _ (by omega)).trans ?_);simp only[go_sem]
   have kp:h7 (n4+21)=some (.cells [[.nils,.nils]]):=by
    refine(p7 _ (by omega) (by omega) (by omega)).trans ((q4 _ (by omega)).trans ?_);simp only[go_sem]
   have kk:∀y,y<n4→y≠bE→y≠bM→h7 y=h4 y:=fun y q1 q2 q3=>by
    refine(p7 _ (by omega) q2 q3).trans ((q4 _ q2).trans ?_);simp only[go_sem,show ∀j,¬y=n4+j from fun j=>by omega]
   have hS7:(Ss.take (a+1)).length<2^40:=by rw[List.length_take];omega
   have hS8:∀s∈Ss.take (a+1),s.length<2^40:=fun s hs=>hsS s (List.mem_of_mem_take hs)
   have hL8:∀l∈LL,l.length<2^40:=fun l hl=>by have:=p4' l hl;omega
   rcases p3 with ⟨w0,rfl⟩|⟨b,rfl,b1,b2,b3⟩
   ·simp only[go_sem,kv,kp,show ¬n4+21=n4+20 by omega];refine⟨by kernel_rfl, ?_⟩;refine nxF _ _ _ (n4+20) (n4+21) .nils (.ro ((Ss.take (a+1)).map eSe)) .nils 2 ((w.take a).length:Nat) N false f (Ss.take (a+1)) [] rfl rfl (by omega) ⟨rfl,rfl,rfl,rfl,rfl,rfl,rfl⟩ ?_ ?_ ?_ ?_ (.inl rfl) (.inr ⟨_,rfl⟩) (.inl rfl) (by simp[rf]) (by simp[rf]) hS7 (by simp) hS8 (fun l hl=>by cases hl) ?_ ?_ ?_ ?_
    ·simp only[go_sem,show ¬n=n4+20 by omega,show ¬n=n4+21 by omega];exact(kk n (by omega) (by omega) (by omega)).trans k0
    ·simp only[go_sem,show ¬n+1=n4+20 by omega,show ¬n+1=n4+21 by omega];exact(kk (n+1) (by omega) (by omega) (by omega)).trans k1
    ·simp only[go_sem,show ¬n4+20=n4+21 by omega]
    ·simp only[go_sem]
    ·exact(p5.up (by omega)).next (Nat.le_refl _) fun y hy=>by simp only[go_sem,show ¬y=n4+20 by omega,show ¬y=n4+21 by omega]
    ·intro y hy r1 r2;simp only[go_sem,show ¬y=n4+20 by omega,show ¬y=n4+21 by omega];exact(kk y (by omega) r1 r2).trans (kf y hy r1 r2)
    ·intro _ q;exact absurd q hD
    ·intro hft hrp H N' r1 r2;exact .inr (.inr (.inl ⟨hf,hD,_,N,_,_,rfl,.inl rfl⟩))
   ·simp only[go_sem,kv,kp,show ¬n4+21=n4+20 by omega];refine⟨by kernel_rfl, ?_⟩;refine nxF _ _ _ (n4+20) (n4+21) .nils (.ro ((Ss.take (a+1)).map eSe)) (.sl b 0 LL.length 1) 2 ((w.take a).length:Nat) N false f (Ss.take (a+1)) LL rfl rfl (by omega) ⟨rfl,rfl,rfl,rfl,rfl,rfl,rfl⟩ ?_ ?_ ?_ ?_ (.inl rfl) (.inr ⟨_,rfl⟩) (.inr ⟨_,_,_,_,rfl⟩) (by simp[rf]) ?_ hS7 (by omega) hS8 hL8 ?_ ?_ ?_ ?_
    ·simp only[go_sem,show ¬n=n4+20 by omega,show ¬n=n4+21 by omega];exact(kk n (by omega) (by omega) (by omega)).trans k0
    ·simp only[go_sem,show ¬n+1=n4+20 by omega,show ¬n+1=n4+21 by omega];exact(kk (n+1) (by omega) (by omega) (by omega)).trans k1
    ·simp only[go_sem,show ¬n4+20=n4+21 by omega]
    ·simp only[go_sem]
    ·refine rf_sla (d:=7) (es:=LL.map eLi) ?_ (by simp) (rfe_map fun x _=>by simp[rfs,rf,eLi]);simp only[go_sem,show ¬b=n4+20 by omega,show ¬b=n4+21 by omega];exact b3
    ·exact(p5.up (by omega)).next (Nat.le_refl _) fun y hy=>by simp only[go_sem,show ¬y=n4+20 by omega,show ¬y=n4+21 by omega]
    ·intro y hy r1 r2;simp only[go_sem,show ¬y=n4+20 by omega,show ¬y=n4+21 by omega];exact(kk y (by omega) r1 r2).trans (kf y hy r1 r2)
    ·intro _ q;exact absurd q hD
    ·intro hft hrp H N' r1 r2;exact .inr (.inr (.inl ⟨hf,hD,_,N,_,_,rfl,.inr ⟨_,_,rfl⟩⟩))
end Go.Av
