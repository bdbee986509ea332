/-
  Layer 23: what is said of a word that is mended. Conditions: none.
-/
import Derived.Test.YtjpkjbobcicfoaaGreatDoorM8
import Derived.Test.YtjpkjbobcicfoaaGreatDoorER
set_option linter.unusedSimpArgs false
set_option linter.unusedVariables false
namespace Go.Av
open Go.Proofs
set_option maxRecDepth 100000
theorem pf27 (g:Gr) (hr:right g=true):PF pg Tq 27 [.agg (eGr g)] (.agg (eGr g)):=by
 obtain⟨_,_,_,hp60,h5⟩:=right_in hr;obtain⟨r,h',n',hb,bp,hX,rfl,_,q1,q2,_⟩:=fz27 g hp60 (fun p hp=>(h5 p hp).2.1) h0 0;refine⟨_,h',n',hb,10,fun fr=>?_⟩;have h1:=rf_sub (fun y o e=>(q1 y o e).2.2) (q2 fr);have h3:rfs fr 9 h' [.int .i64 g.terms,.int .i64 g.nons,.int .i64 g.start,.sl bp 0 g.prods.length 2]=some (eGr g):=rfs_cons (by simp[rf]) (rfs_cons (by simp[rf]) (rfs_cons (by simp[rf]) (rfs_cons h1 rfs_nil)));rw[rf,h3]
theorem fz40 {g:Gr} (hg:SmG g) {bE bM n0:Nat} {gp:AV} {h:Heap} {n:Nat} (m:EM g bE bM gp h n0) (hn0:n0≤n):
  FH pg Tq 40 [.ptr bE 0 0] h n fun r h' n'=>r=.agg (eGr g)∧n≤n'∧∀y,y<n→h' y=h y:=by
 obtain⟨c,hE,hgp⟩:=m.args;have mE:=m.lE;have mM:=m.lM;refine FH.of (N:=8) (rs:=#[.cell 2 24]) Tryz.func40 rfl rfl (of_decide_eq_true rfl) rfl (by decide) ?_;refine W.rseq (k:=1) rfl fun K hK=>?_;simp only[go_sem];refine hK _ _ _ ?_;clear hK K
 have hE0:∀o,(upd h n o) bE=some (.cells [[.int .i64 g.terms,.int .i64 g.nons,.int .i64 g.start,gp,.mp bM,.int .i64 c]]):=fun o=>by rw[upd_app,if_neg (by omega)];exact hE
 have hg0:∀o,rf true 8 (upd h n o) gp=some (.ro (g.prods.map ePr)):=fun o=>hgp _ (fun y hy _ _=>by rw[upd_app,if_neg (by omega)]) true
 refine W.rseq (k:=6) rfl fun K hK=>?_;simp only[go_sem,hE,show ¬bE=n by omega,show ∀j,¬bE=n+j from fun j=>by omega]
 refine VCall.frzq (as':=[.agg (eGr g)]) 11 (rfs_cons (rf_agg (hg0 _)) rfs_nil) (pf27 g hg.right) ?_;simp only[go_sem];refine hK _ _ _ ?_
 first|clear hK K|clear hK|skip
 refine W.ret ?_;simp only[go_sem];refine⟨by omega,fun y hy=>?_⟩;simp only[go_sem,show ¬y=n by omega,show ∀j,¬y=n+j from fun j=>by omega]
def PrfV (sv lv:AV):Prop:=(∃e,sv=.ro e∧lv=.nils)∨(sv=.nils∧∃b o l s,lv=.sl b o l s)∨(∃e b o l s,sv=.ro e∧lv=.sl b o l s)
theorem prf_a (e:List (List AV)):PrfV (.ro e) .nils:=.inl ⟨_,rfl,rfl⟩
theorem prf_b (b o l s:Nat):PrfV .nils (.sl b o l s):=.inr (.inl ⟨rfl,_,_,_,_,rfl⟩)
theorem prf_c (e:List (List AV)) (b o l s:Nat):PrfV (.ro e) (.sl b o l s):=.inr (.inr ⟨_,_,_,_,_,rfl,rfl⟩)
def MenR (g:Gr) (w:List Int) (Ss:List (List It)) (r:AV):Prop:=
 ((Der g w [⟨true,g.start⟩] 0 w.length→∀l,RowsC g w l→¬OkA g w Ss l)∧r=.tup [.agg [.int .i64 4,.nils,.bool false,.int .i64 0,.int .u32 0,.nils],.agg [.nils,.nils],.int .i64 0])∨
 (∃l,RowsC g w l∧OkA g w Ss l∧∃(s:Bool) (sv lv:AV),PrfV sv lv∧r=.tup [.agg [.int .i64 1,.ro ((byL g w 0 l).2.map eIn),.bool s,.int .i64 0,.int .u32 0,.nils],.agg [sv,lv],.int .i64 0])∨
 (¬Der g w [⟨true,g.start⟩] 0 w.length∧∃(ed:List Ed) (row:List Int) (l:List (Nat→Nat)),ed≠[]∧ed.length<2^30∧mayF ed 0 false w.length=true∧applF w ed 0=row∧fitG g row=true∧Der g row [⟨true,g.start⟩] 0 row.length∧RowsC g row l∧(byL g row 0 l).1=0∧
   ∃(a N:Nat) (sv lv:AV),PrfV sv lv∧r=.tup [.agg [.int .i64 3,.ro ((byL g row 0 l).2.map eIn),.bool false,.int .i64 a,.int .u32 N,.ro (ed.map eEd)],.agg [sv,lv],.int .i64 0])
set_option maxHeartbeats 16000000 in
theorem fz15 {g:Gr} (hg:SmG g) (hck:(checkL g).2=0) {bE bM n0:Nat} {gp:AV} {h:Heap} {n:Nat} (m:EM g bE bM gp h n0) (hn0:n0≤n) (w:List Int) (hf:fitG g w=true) (hl24:w.length<24) (Ss:List (List It)) (hSs:fitG g w=true→PF pg Tq 30 [.agg (eGr g),.ro (w.map eIn)] (.ro (Ss.map eSe))∧ChartC g w Ss):
  FH pg Tq 15 [.ptr bE 0 0,.ro (w.map eIn),.int .i64 1099511627776] h n fun r h' n'=>MenR g w Ss r∧EM g bE bM gp h' n0∧n≤n'∧∀y,y<n→y≠bE→y≠bM→h' y=h y:=by
 have mE:=m.lE;have mM:=m.lM;have hfw:fitsW g w=true:=by rw[fitG,Bool.and_eq_true] at hf;exact hf.2
 have hG:=fit_good hf;refine FH.of (N:=64) (rs:=#[.cell 6 37,.cell 7 41,.tmp 8]) Tryz.func15 rfl rfl (of_decide_eq_true rfl) rfl (by decide) ?_;refine W.rseq (k:=3) rfl fun K hK=>?_;simp only[go_sem];refine hK _ _ _ ?_;clear hK K;refine W.rseq (k:=13) rfl fun K hK=>?_;simp only[go_sem]
 refine VCall.heap (fz10 hg hck (h:=upd (upd h n _) (n+1) _) (m.next (Nat.le_refl _) (fun y hy=>by rw[upd_app,if_neg (by omega),upd_app,if_neg (by omega)])) (by omega) w (by omega) Ss hSs) fun r h1 n1 ⟨p0,p1,p2,p3⟩=>?_
 have k0:h1 n=some (.cells [[.int .i64 0,.nils,.bool false,.int .i64 0,.int .u32 0,.nils]]):=by
  refine(p3 n (by omega) (by omega) (by omega)).trans ?_;simp only[go_sem,show ¬n=n+1 by omega]
 have k1:h1 (n+1)=some (.cells [[.nils,.nils]]):=by
  refine(p3 (n+1) (by omega) (by omega) (by omega)).trans ?_;simp only[go_sem]
 have kf:∀y,y<n→y≠bE→y≠bM→h1 y=h y:=fun y q1 q2 q3=>by
  refine(p3 y (by omega) q2 q3).trans ?_;simp only[go_sem,show ¬y=n by omega,show ¬y=n+1 by omega]
 have fin:∀(H:Heap) (N':Nat),n1≤N'→(∀y,y<n→H y=h1 y)→EM g bE bM gp H n0∧n≤N'∧∀y,y<n→y≠bE→y≠bM→H y=h y:=fun H N' q1 q2=>
  ⟨p1.next (Nat.le_refl _) fun y hy=>q2 y (by omega),by omega,fun y hy r1 r2=>(q2 y hy).trans (kf y hy r1 r2)⟩
 have zn:∀j,¬n=n1+j:=fun j=>by omega
 have zm:∀j,¬n+1=n1+j:=fun j=>by omega
 have zo:∀y,y<n→∀j,¬y=n1+j:=fun y hy j=>by omega
 have z1n:¬n+1=n:=by omega
 have y1:∀y,y<n+13→∀j,(y<n1+j)=True:=fun y hy j=>eq_true (by omega)
 have za:∀j,¬n+11=n1+j:=fun j=>by omega
 have zb:∀j,¬n+12=n1+j:=fun j=>by omega
 rcases p0 with ⟨q,_⟩|⟨_,q1,rfl⟩|⟨_,q1,a,N,S,lv,rfl,q2⟩|⟨_,l,q1,q2,sv,lv,rfl,q3,q4⟩
 ·rcases q with q|q
  ·rw[hfw] at q;cases q
  ·omega
 ·simp only[go_sem];refine hK _ _ _ ?_
  first|clear hK K|clear hK|skip
  refine W.seq ?_;refine W.rseq (k:=7) rfl fun K hK=>?_;simp only[go_sem];refine hK _ _ _ ?_;clear hK K;refine W.condT (by simp only[go_sem]) ?_
  refine W.dseqB (k:=6) rfl fun K hK=>?_
  refine VB.run 1 rfl ?_;simp only[go_sem,k0,k1,zn,zm,z1n,za,zb,y1 (n+11) (by omega),y1 (n+12) (by omega),show ¬n=n+11 by omega,show ¬n=n+12 by omega,show ¬n+1=n+11 by omega,show ¬n+1=n+12 by omega,show ¬n+12=n+11 by omega,show ¬n+11=n+12 by omega];refine VB.loadR (b:=n+12) (j:=0) (off:=0) (cs':=[_,_]) (v:=.agg [_,_]) tabOK rfl rfl rfl rfl th41 (by simp only[go_sem]) (by simp only[go_sem,rdQ,k0,k1,zn,zm,z1n,za,zb,y1 (n+11) (by omega),y1 (n+12) (by omega),show ¬n=n+11 by omega,show ¬n=n+12 by omega,show ¬n+1=n+11 by omega,show ¬n+1=n+12 by omega,show ¬n+12=n+11 by omega,show ¬n+11=n+12 by omega];rfl) rfl ?_;refine VB.run 1 rfl ?_;simp only[go_sem];refine VB.plainK tabOK [(n+12,.seg 0 0 2)] [] rfl rfl rfl (by simp only[go_sem,k0,k1,zn,zm,z1n,za,zb,y1 (n+11) (by omega),y1 (n+12) (by omega),show ¬n=n+11 by omega,show ¬n=n+12 by omega,show ¬n+1=n+11 by omega,show ¬n+1=n+12 by omega,show ¬n+12=n+11 by omega,show ¬n+11=n+12 by omega];rfl) ⟨fun q hq=>?_,fun b hb=>(by cases hb)⟩ ?_
  ·have:q=(n+12,.seg 0 0 2):=by simpa using hq
   subst this;simp only[go_sem,show ¬n+12=n by omega]
  refine VB.run 2 rfl ?_;simp only[go_sem,k0,k1,zn,zm,z1n,za,zb,y1 (n+11) (by omega),y1 (n+12) (by omega),show ¬n=n+11 by omega,show ¬n=n+12 by omega,show ¬n+1=n+11 by omega,show ¬n+1=n+12 by omega,show ¬n+12=n+11 by omega,show ¬n+11=n+12 by omega];refine VB.nil ?_;refine hK _ _ _ _ (drawOK_re (ren1_inj (n+12)) (by simp only[List.reverse_cons,List.reverse_nil,List.nil_append,List.cons_append,List.map_cons,List.map_nil,Cls.re,ren1_at];kernel_rfl)) ?_;clear hK K;refine W.ret ?_;simp only[go_sem,k0,k1,zn,zm,z1n,show ¬n=n+11 by omega,show ¬n=n+12 by omega,show ¬n+1=n+11 by omega,show ¬n+1=n+12 by omega];exact⟨.inl ⟨q1,rfl⟩,fin _ _ (by omega) fun y hy=>by simp only[go_sem,zo y hy,show ¬y=n by omega,show ¬y=n+1 by omega,show ¬y=n+11 by omega,show ¬y=n+12 by omega]⟩
 ·have hlv:lv=.nils∨∃b o l s,lv=.sl b o l s:=q2.imp id fun⟨b,l,q⟩=>⟨b,_,_,_,q⟩
  clear q2;rcases hlv with rfl|⟨bl,ol,ll,sl,rfl⟩
  all_goals
   simp only[go_sem];refine hK _ _ _ ?_
   first|clear hK K|clear hK|skip
   refine W.seq ?_;refine W.rseq (k:=7) rfl fun K hK=>?_;simp only[go_sem];refine hK _ _ _ ?_;clear hK K;refine W.condF (by simp only[go_sem]) ?_;refine W.skip ?_;simp only[go_sem]
   obtain⟨ed,row,e,hQ,hEd⟩:=fz39 hg w hf hl24;refine W.rseq (k:=11) rfl fun K hK=>?_;simp only[go_sem]
   refine VCall.heap (fz40 hg (p1.next (Nat.le_refl _) (fun y hy=>by simp only[go_sem,zo y (by omega),show ¬y=n+11 by omega,show ¬y=n+12 by omega])) (by omega)) fun r h2 n2 ⟨r1,r2,r3⟩=>?_
   subst r1;simp only[go_sem];refine VCall.frzw 6 hQ (by simp[rfs,rf,eGr]) ?_;simp only[go_sem]
   have j0:h2 n=some (.cells [[.int .i64 0,.nils,.bool false,.int .i64 0,.int .u32 0,.nils]]):=by
    refine(r3 n (by omega)).trans ?_;simp only[go_sem,show ¬n=n+11 by omega,show ¬n=n+12 by omega];exact k0
   have j1:h2 (n+1)=some (.cells [[.nils,.nils]]):=by
    refine(r3 (n+1) (by omega)).trans ?_;simp only[go_sem,show ¬n+1=n+11 by omega,show ¬n+1=n+12 by omega];exact k1
   have j11:h2 (n+11)=some (.cells [[.int .i64 2,.nils,.bool false,.int .i64 a,.int .u32 N,.nils]]):=by
    refine(r3 (n+11) (by omega)).trans ?_;simp only[go_sem,show ¬n+11=n+12 by omega]
   have j12:=r3 (n+12) (by omega);simp only[go_sem] at j12
   have jf:∀y,y<n→h2 y=h1 y:=fun y hy=>by
    refine(r3 y (by omega)).trans ?_;simp only[go_sem,show ¬y=n+11 by omega,show ¬y=n+12 by omega]
   refine hK _ _ _ ?_
   first|clear hK K|clear hK|skip
   have z2:∀y,y<n1→∀j,¬y=n2+j:=fun y hy j=>by omega
   refine W.seq ?_;by_cases he:e=0
   ·subst he;refine W.rseq (k:=2) rfl fun K hK=>?_;simp only[go_sem];refine hK _ _ _ ?_;clear hK K;refine W.condF (by simp only[go_sem]) ?_;refine W.skip ?_;simp only[go_sem]
    have hEd:=hEd rfl
    have hfr:fitG g row=true:=by
     rcases hEd with ⟨_,rfl⟩|⟨_,_,_,_,q,_⟩
     ·exact hf
     ·exact q
    have hrl:=fit_len hfr;obtain⟨L,h1',h2',h3'⟩:=fz102 g hg.small row (by omega);have hL:=h3' hfr;have hp41:=fz41 g hg.small row 0 L h1' h2' h3';rw[lead_by hL (by omega) (by omega)] at hp41;obtain⟨E,l,hEl⟩:∃E l,byL g row 0 L=(E,l):=⟨_,_,rfl⟩;rw[hEl] at hp41;refine W.rseq (k:=9) rfl fun K hK=>?_;simp only[go_sem]
    refine VCall.heap (fz40 hg (p1.next (Nat.le_refl _) (fun y hy=>jf y (by omega))) (by omega)) fun r h3 n3 ⟨s1,s2,s3⟩=>?_
    subst s1;simp only[go_sem];refine VCall.frz 9 hp41 (by simp[rfs,rf,eGr]) ?_;simp only[go_sem];refine hK _ _ _ ?_
    first|clear hK K|clear hK|skip
    refine W.seq ?_;have i0:=(s3 n (by omega)).trans j0;have i1:=(s3 (n+1) (by omega)).trans j1;have i11:=(s3 (n+11) (by omega)).trans j11;have i12:=(s3 (n+12) (by omega)).trans j12;have jf3:∀y,y<n→h3 y=h1 y:=fun y hy=>(s3 y (by omega)).trans (jf y hy)
    have z3:∀y,y<n1→∀j,¬y=n3+j:=fun y hy j=>by omega
    have y3:∀y,y<n1→∀j,(y<n3+j)=True:=fun y hy j=>eq_true (by omega)
    by_cases hE:E=0
    ·subst hE;refine W.rseq (k:=2) rfl fun K hK=>?_;simp only[go_sem];refine hK _ _ _ ?_;clear hK K;refine W.condF (by simp only[go_sem]) ?_;refine W.skip ?_;simp only[go_sem]
     have hdr:Der g row [⟨true,g.start⟩] 0 row.length:=by
      rcases ends_law hG hrl hL with ⟨q,_⟩|⟨q|⟨_,q⟩,_⟩
      ·rw[hEl] at q;cases q
      ·rw[hEl] at q;cases q
      ·have:=(rep_der _ _ _ _ q).2;simpa using this
     have hEd2:ed≠[]∧ed.length<2^30∧mayF ed 0 false w.length=true∧applF w ed 0=row:=by
      rcases hEd with ⟨_,rfl⟩|⟨q1,q2,q3,q4,_⟩
      ·exact absurd hdr q1
      ·exact⟨q1,q2,q3,q4⟩
     obtain⟨e1,e2,e3,e4⟩:=hEd2;refine W.rseq (k:=8) rfl fun K hK=>?_;simp only[go_sem,i11,z3 (n+11) (by omega)];refine hK _ _ _ ?_;clear hK K
     refine W.dseqB (k:=5) rfl fun K hK=>?_
     refine VB.run 1 rfl ?_;simp only[go_sem,i0,i1,i11,i12,z3 n (by omega),z3 (n+1) (by omega),z3 (n+11) (by omega),z3 (n+12) (by omega),y3 (n+11) (by omega),y3 (n+12) (by omega),z1n,show ¬n=n+11 by omega,show ¬n+1=n+11 by omega,show ¬n+12=n+11 by omega];refine VB.loadR (b:=n+12) (j:=0) (off:=0) (cs':=[_,_]) (v:=.agg [_,_]) tabOK rfl rfl rfl rfl th41 (by simp only[go_sem]) (by simp only[go_sem,rdQ,i0,i1,i11,i12,z3 n (by omega),z3 (n+1) (by omega),z3 (n+11) (by omega),z3 (n+12) (by omega),y3 (n+11) (by omega),y3 (n+12) (by omega),z1n,show ¬n=n+11 by omega,show ¬n+1=n+11 by omega,show ¬n+12=n+11 by omega];rfl) rfl ?_;refine VB.plainK tabOK [(n+12,.seg 0 0 2)] [] rfl rfl rfl (by simp only[go_sem,i0,i1,i11,i12,z3 n (by omega),z3 (n+1) (by omega),z3 (n+11) (by omega),z3 (n+12) (by omega),y3 (n+11) (by omega),y3 (n+12) (by omega),z1n,show ¬n=n+11 by omega,show ¬n+1=n+11 by omega,show ¬n+12=n+11 by omega];rfl) ⟨fun q hq=>?_,fun b hb=>(by cases hb)⟩ ?_
     ·have:q=(n+12,.seg 0 0 2):=by simpa using hq
      subst this;simp only[go_sem,show ¬n+12=n by omega]
     refine VB.run 2 rfl ?_;simp only[go_sem,i0,i1,i11,i12,z3 n (by omega),z3 (n+1) (by omega),z3 (n+11) (by omega),z3 (n+12) (by omega),y3 (n+11) (by omega),y3 (n+12) (by omega),z1n,show ¬n=n+11 by omega,show ¬n+1=n+11 by omega,show ¬n+12=n+11 by omega];refine VB.nil ?_;refine hK _ _ _ _ (drawOK_re (ren1_inj (n+12)) (by simp only[List.reverse_cons,List.reverse_nil,List.nil_append,List.cons_append,List.map_cons,List.map_nil,Cls.re,ren1_at];kernel_rfl)) ?_;clear hK K;refine W.ret ?_;simp only[go_sem,i0,i1,z3 n (by omega),z3 (n+1) (by omega),z1n,show ¬n=n+11 by omega,show ¬n+1=n+11 by omega];refine⟨.inr (.inr ⟨q1,ed,row,L,e1,e2,e3,e4,hfr,hdr,hL,by rw[hEl], ?_⟩),fin _ _ (by omega) fun y hy=>?_⟩
     ·rw[hEl];exact⟨a,N,_,_,(by first|exact prf_a _|exact prf_b _ _ _ _|exact prf_c _ _ _ _ _),rfl⟩
     ·simp only[go_sem,show ¬y=n by omega,show ¬y=n+1 by omega,show ¬y=n+11 by omega];exact jf3 y hy
    ·refine W.rseq (k:=2) rfl fun K hK=>?_;simp only[go_sem,hE];refine hK _ _ _ ?_;clear hK K;refine W.condT (by simp only[go_sem,hE]) ?_;refine W.rseq (k:=5) rfl fun K hK=>?_;simp only[go_sem,i0,i1,z3 n (by omega),z3 (n+1) (by omega),z1n];refine hK _ _ _ ?_;clear hK K;refine W.ret ?_;simp only[go_sem,i0,i1,z3 n (by omega),z3 (n+1) (by omega),z1n]
     exact⟨.inl ⟨fun q=>absurd q q1,rfl⟩,fin _ _ (by omega) fun y hy=>by simp only[go_sem,show ¬y=n by omega,show ¬y=n+1 by omega];exact jf3 y hy⟩
   ·refine W.rseq (k:=2) rfl fun K hK=>?_;simp only[go_sem,he];refine hK _ _ _ ?_;clear hK K;refine W.condT (by simp only[go_sem,he]) ?_;refine W.rseq (k:=5) rfl fun K hK=>?_;simp only[go_sem,j0,j1,z2 n (by omega),z2 (n+1) (by omega),z1n];refine hK _ _ _ ?_;clear hK K;refine W.ret ?_;simp only[go_sem,j0,j1,z2 n (by omega),z2 (n+1) (by omega),z1n]
    exact⟨.inl ⟨fun q=>absurd q q1,rfl⟩,fin _ _ (by omega) fun y hy=>by simp only[go_sem,show ¬y=n by omega,show ¬y=n+1 by omega];exact jf y hy⟩
 ·have hlv:(∃e,sv=.ro e∧lv=.nils)∨(sv=.nils∧∃b o l s,lv=.sl b o l s):=by
   by_cases he:(byL g w 0 l).2=(byL g w 1 l).2
   ·obtain⟨q,q'⟩:=q3 he;exact .inl ⟨_,q,q'⟩
   ·obtain⟨q,b,q',_⟩:=q4 he;exact .inr ⟨q,b,_,_,_,q'⟩
  clear q3 q4;rcases hlv with ⟨es,rfl,rfl⟩|⟨rfl,b,o,l',s',rfl⟩
  all_goals
   simp only[go_sem];refine hK _ _ _ ?_
   first|clear hK K|clear hK|skip
   refine W.seq ?_;refine W.rseq (k:=7) rfl fun K hK=>?_;simp only[go_sem];refine hK _ _ _ ?_;clear hK K;refine W.condT (by simp only[go_sem]) ?_
   refine W.dseqB (k:=6) rfl fun K hK=>?_
   refine VB.run 1 rfl ?_;simp only[go_sem,k0,k1,zn,zm,z1n,za,zb,y1 (n+11) (by omega),y1 (n+12) (by omega),show ¬n=n+11 by omega,show ¬n=n+12 by omega,show ¬n+1=n+11 by omega,show ¬n+1=n+12 by omega,show ¬n+12=n+11 by omega,show ¬n+11=n+12 by omega];refine VB.loadR (b:=n+12) (j:=0) (off:=0) (cs':=[_,_]) (v:=.agg [_,_]) tabOK rfl rfl rfl rfl th41 (by simp only[go_sem]) (by simp only[go_sem,rdQ,k0,k1,zn,zm,z1n,za,zb,y1 (n+11) (by omega),y1 (n+12) (by omega),show ¬n=n+11 by omega,show ¬n=n+12 by omega,show ¬n+1=n+11 by omega,show ¬n+1=n+12 by omega,show ¬n+12=n+11 by omega,show ¬n+11=n+12 by omega];rfl) rfl ?_;refine VB.run 1 rfl ?_;simp only[go_sem];refine VB.plainK tabOK [(n+12,.seg 0 0 2)] [] rfl rfl rfl (by simp only[go_sem,k0,k1,zn,zm,z1n,za,zb,y1 (n+11) (by omega),y1 (n+12) (by omega),show ¬n=n+11 by omega,show ¬n=n+12 by omega,show ¬n+1=n+11 by omega,show ¬n+1=n+12 by omega,show ¬n+12=n+11 by omega,show ¬n+11=n+12 by omega];rfl) ⟨fun q hq=>?_,fun b hb=>(by cases hb)⟩ ?_
   ·have:q=(n+12,.seg 0 0 2):=by simpa using hq
    subst this;simp only[go_sem,show ¬n+12=n by omega]
   refine VB.run 2 rfl ?_;simp only[go_sem,k0,k1,zn,zm,z1n,za,zb,y1 (n+11) (by omega),y1 (n+12) (by omega),show ¬n=n+11 by omega,show ¬n=n+12 by omega,show ¬n+1=n+11 by omega,show ¬n+1=n+12 by omega,show ¬n+12=n+11 by omega,show ¬n+11=n+12 by omega];refine VB.nil ?_;refine hK _ _ _ _ (drawOK_re (ren1_inj (n+12)) (by simp only[List.reverse_cons,List.reverse_nil,List.nil_append,List.cons_append,List.map_cons,List.map_nil,Cls.re,ren1_at];kernel_rfl)) ?_;clear hK K;refine W.ret ?_;simp only[go_sem,k0,k1,zn,zm,z1n,show ¬n=n+11 by omega,show ¬n=n+12 by omega,show ¬n+1=n+11 by omega,show ¬n+1=n+12 by omega];exact⟨.inr (.inl ⟨l,q1,q2,_,_,_,(by first|exact prf_a _|exact prf_b _ _ _ _|exact prf_c _ _ _ _ _),rfl⟩),fin _ _ (by omega) fun y hy=>by simp only[go_sem,zo y hy,show ¬y=n by omega,show ¬y=n+1 by omega,show ¬y=n+11 by omega,show ¬y=n+12 by omega]⟩
end Go.Av
