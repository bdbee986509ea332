/-
  Layer 22: rows of a word are looked at. Conditions: none.
-/
import Derived.Test.YtjpkjbobcicfoaaGreatDoorEI
import Derived.Test.YtjpkjbobcicfoaaGreatDoorEL
set_option linter.unusedSimpArgs false
set_option linter.unusedVariables false
namespace Go.Av
open Go.Proofs
set_option maxRecDepth 100000
theorem SlL.lo {h:Heap} {lo n:Nat} {v:AV} {B:List (Nat→Nat)} (q:SlL eRw 25 h lo n v B):rf true 8 (loH n h) v=some (.ro (B.map eRw)):=by
 rcases q with ⟨rfl,rfl⟩|⟨b,rfl,q1,q2,q3⟩
 ·simp[rf]
 ·exact rf_sla (d:=7) (by unfold loH;rw[if_pos q2];exact q3) (by simp) (rfe_map fun x _=>rfs_rw)
theorem WV.apart {g:Gr} {bE bM:Nat} {gp:AV} {h:Heap} {n n0:Nat} {v:AV} {w:List Int} (q:WV h n v w) (m:EM g bE bM gp h n0) {h':Heap} {n':Nat} (hn:n≤n') (hh:∀y,y<n→y≠bE→y≠bM→h' y=h y):WV h' n' v w:=by
 rcases q with q|⟨b,q1,q2,q3⟩
 ·exact .inl q
 ·refine .inr ⟨b,q1,by omega,(hh b q2 (fun e=>?_) (fun e=>?_)).trans q3⟩
  ·obtain⟨c,hX,m4,_⟩:=m.eng;rw[←e,q3] at m4;injection m4 with m4
   injection m4 with m4
   cases w with
   |nil=>cases m4
   |cons t w=>
    rw[List.map_cons] at m4;injection m4 with m4 _
    cases m4
  ·obtain⟨us,m7,_⟩:=m.known;rw[←e,q3] at m7;cases m7
structure EC (g:Gr) (bE bM:Nat) (gp:AV) (C:Int) (h:Heap) (n:Nat):Prop where
 em:EM g bE bM gp h n
 co:∃c:Int,0≤c∧c≤C∧h bE=some (.cells [[.int .i64 g.terms,.int .i64 g.nons,.int .i64 g.start,gp,.mp bM,.int .i64 c]])
section
variable {g:Gr} {bE bM:Nat} {gp:AV} {C:Int} {h h':Heap} {n n':Nat}
theorem EC.next (m:EC g bE bM gp C h n) (hn:n≤n') (hh:∀y,y<n→h' y=h y):EC g bE bM gp C h' n':=by
 obtain⟨c,c0,c1,c2⟩:=m.co;exact⟨m.em.next hn hh,c,c0,c1,(hh _ m.em.lE).trans c2⟩
theorem EC.up {D:Int} (m:EC g bE bM gp C h n) (hD:C≤D):EC g bE bM gp D h n:=by
 obtain⟨c,c0,c1,c2⟩:=m.co;exact⟨m.em,c,c0,by omega,c2⟩
theorem EC.keep (m:EC g bE bM gp C h n) (m':EM g bE bM gp h' n') (e:h' bE=h bE):EC g bE bM gp C h' n':=by
 obtain⟨c,c0,c1,c2⟩:=m.co;exact⟨m',c,c0,c1,e.trans c2⟩
theorem EC.args (m:EC g bE bM gp C h n):∃c:Int,h bE=some (.cells [[.int .i64 g.terms,.int .i64 g.nons,.int .i64 g.start,gp,.mp bM,.int .i64 c]])∧(0≤c∧c≤C)∧∀h':Heap,(∀y,y<n→y≠bE→y≠bM→h' y=h y)→∀fr,rf fr 8 h' gp=some (.ro (g.prods.map ePr)):=by
 obtain⟨c,c0,c1,c2⟩:=m.co;obtain⟨_,_,h3⟩:=m.em.args;exact⟨c,c2,⟨c0,c1⟩,h3⟩
theorem EM.cost (m:EM g bE bM gp h n) (c':Int):EM g bE bM gp (upd h bE (some (.cells [[.int .i64 g.terms,.int .i64 g.nons,.int .i64 g.start,gp,.mp bM,.int .i64 c']]))) n:=by
 obtain⟨m1,m2,m3,⟨c,hX,m4,m5,m6⟩,us,m7,m8⟩:=m;refine⟨m1,m2,m3,⟨c',hX,by rw[upd_app,if_pos rfl],fun y o q=>?_,m6⟩,us,by rw[upd_app,if_neg (Ne.symm m3)];exact m7,m8⟩;obtain⟨a1,a2,a3,a4⟩:=m5 y o q;exact⟨a1,a2,a3,by rw[upd_app,if_neg a1];exact a4⟩
theorem EM.ec (m:EM g bE bM gp h n) {c':Int} {D:Int} (h0:0≤c') (h1:c'≤D):EC g bE bM gp D (upd h bE (some (.cells [[.int .i64 g.terms,.int .i64 g.nons,.int .i64 g.start,gp,.mp bM,.int .i64 c']]))) n:=
 ⟨m.cost c',c',h0,h1,by rw[upd_app,if_pos rfl]⟩
end
set_option maxHeartbeats 16000000 in
theorem fz29 {g:Gr} (hg:SmG g) {bE bM n0:Nat} {gp:AV} {h:Heap} {n:Nat} {C:Int} (hC:C≤2^42) (m:EC g bE bM gp C h n0) (hn0:n0≤n) (w:List Int) (hw:w.length≤24) (hk:KeyW w) (v:AV) (hv:WV h n v w):
  FH pg Tq 29 [.ptr bE 0 0,v] h n fun r h' n'=>∃l,RowsC g w l∧SlL eRw 25 h' n n' r l∧EC g bE bM gp (C+25) h' n0∧n≤n'∧∀y,y<n→y≠bE→y≠bM→h' y=h y:=by
 have hkd:∀i,KeyW (w.drop i):=fun i=>⟨by rw[List.length_drop];omega,fun t ht=>hk.2 t (List.mem_of_mem_drop ht)⟩
 have hvl:(v=.ro (w.map eIn)∨∃b,v=.sl b 0 w.length 1):=hv.imp id fun⟨b,q,_⟩=>⟨b,q⟩
 have mE:=m.em.lE;have mM:=m.em.lM;have mne:=m.em.ne;refine FH.of (N:=42) (rs:=#[.tmp 4]) Tryz.func29 rfl rfl (of_decide_eq_true rfl) rfl (by decide) ?_;refine W.rseq (k:=3) rfl fun K hK=>?_
 have main:∀(t':Fr),t' 2=.ptr n 0 0→t' 3=.ptr (n+1) 0 0→K t' (upd (upd h n (some (.cells [[.ptr bE 0 0]]))) (n+1) (some (.cells [[v]]))) (n+3):=by
  intro t' s2 s3;refine hK _ _ _ ?_;clear hK K;refine W.rseq (k:=1) rfl fun K hK=>?_;simp only[go_sem];refine hK _ _ _ ?_;clear hK K;refine W.seqk fun K hK=>?_
  have nx0:∀(t':Fr) (h':Heap) (n':Nat) (rv:AV) (l:List (Nat→Nat)),n+3<n'→t' 5=.ptr (n+3) 0 0→h' (n+3)=some (.cells [[rv]])→SlL eRw 25 h' n n' rv l→RowsC g w l→EC g bE bM gp (C+25) h' n0→(∀y,y<n→y≠bE→y≠bM→h' y=h y)→K t' h' n':=by
   intro t' h' n' rv l e1 e2 e3 e4 e5 e6 e7;refine hK _ _ _ ?_
   first|clear hK K|clear hK|skip
   have z3:∀j,¬n+3=n'+j:=fun j=>by omega
   refine W.rseq (k:=2) rfl fun K hK=>?_;simp only[go_sem,e2,e3,z3];refine hK _ _ _ ?_;clear hK K;refine W.ret ?_;simp only[go_sem]
   exact⟨l,e5,e4.next rfl (fun x hx hx'=>rfl) (by omega) (Nat.le_refl _),e6,by omega,e7⟩
  clear hK;refine W.rseq (k:=4) rfl fun K hK=>?_
  have loop:∀(t':Fr) (h':Heap) (n':Nat) (b1 b3:Nat),b1=n+1→b3=n+3→n+6<n'→t' 2=.ptr n 0 0→t' 3=.ptr b1 0 0→t' 5=.ptr b3 0 0→t' 6=.ptr (n+6) 0 0→h' n=some (.cells [[.ptr bE 0 0]])→h' b1=some (.cells [[v]])→h' b3=some (.cells [[.nils]])→h' (n+6)=some (.cells [[.int .i64 w.length]])→EC g bE bM gp C h' n0→(∀y,y<n→y≠bE→y≠bM→h' y=h y)→K t' h' n':=by
   intro t' h' n' b1 b3 hb1 hb3 l1 u2 u3 u5 u6 k0 k1 k3 k6 m' hf;refine hK _ _ _ ?_;clear hK
   refine W.block (W.while (fun mm t2 h2 n2=>∃(k:Nat) (B:List (Nat→Nat)) (b6:Nat) (rv:AV),mm=k∧k≤w.length+1∧n+6≤b6∧b6<n2∧h2 b6=some (.cells [[.int .i64 ((k:Int) - 1)]])∧h2 n=some (.cells [[.ptr bE 0 0]])∧h2 b1=some (.cells [[v]])∧h2 b3=some (.cells [[rv]])∧SlL eRw 25 h2 (n+4) n2 rv B∧(B.length+k=w.length+1∧∀j,j<B.length→Rc g (w.drop (k+j)) (rowAt B j))∧EC g bE bM gp (C+((w.length+1 - k:Nat):Int)) h2 n0∧(∀y,y<n→y≠bE→y≠bM→h2 y=h y)∧(t2 2=.ptr n 0 0∧t2 3=.ptr b1 0 0∧t2 5=.ptr b3 0 0)∧t2 6=.ptr b6 0 0) (w.length+1)
    ⟨w.length+1,[],n+6,.nils,rfl,Nat.le_refl _,Nat.le_refl _,l1,by rw[k6];congr 5;omega,k0,k1,k3,.inl ⟨rfl,rfl⟩,⟨by simp,fun j hj=>by simp at hj⟩,m'.up (by omega),hf,⟨u2,u3,u5⟩,u6⟩ fun mm t2 h2 n2 ⟨k,B,b6,rv,i1,i2,i3,i4,i5,i6,i7,i8,i9,⟨i10,i11⟩,i12,i13,i14,i15⟩=>?_)
   obtain⟨a2,a3,a5⟩:=i14;have z0:∀j,¬n=n2+j:=fun j=>by omega
   have z1:∀j,¬b1=n2+j:=fun j=>by omega
   have z3:∀j,¬b3=n2+j:=fun j=>by omega
   have z6:∀j,¬b6=n2+j:=fun j=>by omega
   have y0:∀j,(n<n2+j)=True:=fun j=>eq_true (by omega)
   have y1:∀j,(b1<n2+j)=True:=fun j=>eq_true (by omega)
   have y3:∀j,(b3<n2+j)=True:=fun j=>eq_true (by omega)
   have y6:∀j,(b6<n2+j)=True:=fun j=>eq_true (by omega)
   refine W.seq ?_;refine W.rseq (k:=2) rfl fun K hK=>?_;simp only[go_sem,i15,i5];refine hK _ _ _ ?_;clear hK K
   cases k with
   |zero=>
    refine W.condF (by simp only[go_sem];rfl) ?_;refine W.exit ?_;simp only[go_sem];refine nx0 _ _ _ rv B (by omega) (by rw[←hb3];exact a5) (by rw[←hb3];exact i8) (i9.next rfl (fun x hx hx'=>rfl) (by omega) (by omega)) ⟨by omega,fun a ha=>?_⟩ (i12.up (by omega)) i13;have:=i11 a ha;rwa[Nat.zero_add] at this
   |succ i=>
    refine W.condT (by simp only[go_sem];exact congrArg (fun b=>some (AV.bool b)) (decide_eq_true (by omega))) ?_;refine W.skip ?_;simp only[go_sem];have e6:h2 b6=some (.cells [[.int .i64 (i:Int)]]):=by rw[i5];congr 5;omega
    clear i5;have hi:i≤w.length:=by omega
    have hRB:RcB g (w.drop i) B:=by
     refine⟨by rw[List.length_drop];omega,fun a ha=>?_⟩;rw[List.drop_drop,show i+(a+1)=i+1+a by omega];exact i11 a (by rw[List.length_drop] at ha;omega)
    have hv2:=hv.apart m.em (Nat.le_trans (Nat.le_add_right n 6) (by omega:n+6≤n2)) i13;refine W.seqk fun K hK=>?_
    have nx1:∀(t3:Fr) (h3:Heap) (n3:Nat) (f:Nat→Nat) (rv:AV),n2≤n3→Rc g (w.drop i) f→h3 b6=some (.cells [[.int .i64 (i:Int)]])→h3 n=some (.cells [[.ptr bE 0 0]])→h3 b1=some (.cells [[v]])→h3 b3=some (.cells [[rv]])→SlL eRw 25 h3 (n+4) n3 rv (f::B)→EC g bE bM gp (C+((w.length+1 - i:Nat):Int)) h3 n0→(∀y,y<n→y≠bE→y≠bM→h3 y=h y)→(t3 2=.ptr n 0 0∧t3 3=.ptr b1 0 0∧t3 5=.ptr b3 0 0)→t3 6=.ptr b6 0 0→K t3 h3 n3:=by
     intro t3 h3 n3 f rv d1 d2 d3 d4 d5 d6 d7 d8 d9 d10 d11;refine hK _ _ _ ?_;clear hK;have x0:∀j,¬n=n3+j:=fun j=>by omega
     have x1:∀j,¬b1=n3+j:=fun j=>by omega
     have x3:∀j,¬b3=n3+j:=fun j=>by omega
     have x6:∀j,¬b6=n3+j:=fun j=>by omega
     refine W.seq ?_;refine W.rseq (k:=1) rfl fun K hK=>?_;simp only[go_sem,d11,d3,x6];refine hK _ _ _ ?_;clear hK K;refine W.region (k:=2) rfl ?_;simp only[go_sem];refine W.region (k:=3) rfl ?_;simp only[go_sem]
     refine⟨i,by omega,i,f::B,n3+1,rv,rfl,by omega,by omega,by omega, ?_, ?_, ?_, ?_, ?_,⟨by rw[List.length_cons];omega,fun a ha=>?_⟩, ?_, ?_,d10,rfl⟩
     ·simp only[go_sem];rw[wrap64 (by omega) (by omega)]
     ·simp only[go_sem,x0,d4]
     ·simp only[go_sem,x1,d5]
     ·simp only[go_sem,x3,d6]
     ·exact d7.next rfl (fun x hx hx'=>by simp only[go_sem,show ∀j,¬x=n3+j from fun j=>by omega]) (by omega) (Nat.le_refl _)
     ·cases a with
      |zero=>exact d2
      |succ a=>
       rw[row_succ,show i+(a+1)=i+1+a by omega];rw[List.length_cons] at ha;exact i11 a (by omega)
     ·exact d8.next (Nat.le_refl _) (fun y hy=>by simp only[go_sem,show ∀j,¬y=n3+j from fun j=>by omega])
     ·intro y hy h1 h2;simp only[go_sem,show ∀j,¬y=n3+j from fun j=>by omega];exact d9 y hy h1 h2
    clear hK;refine W.block ?_;refine W.seqk fun K hK=>?_
    have nxB:∀(t3:Fr) (h3:Heap) (n3:Nat) (f:Nat→Nat) (kn:Bool) (b14:Nat),b14=n2+14→n2+17≤n3→Rc g (w.drop i) f→h3 b6=some (.cells [[.int .i64 (i:Int)]])→h3 n=some (.cells [[.ptr bE 0 0]])→h3 b1=some (.cells [[v]])→h3 b3=some (.cells [[rv]])→SlL eRw 25 h3 (n+4) n3 rv B→EC g bE bM gp (C+((w.length+1 - (i+1):Nat):Int)) h3 n0→(∀y,y<n→y≠bE→y≠bM→h3 y=h y)→(t3 2=.ptr n 0 0∧t3 3=.ptr b1 0 0∧t3 5=.ptr b3 0 0)→t3 6=.ptr b6 0 0→t3 7=.ptr b14 0 0→h3 b14=some (.cells [eRw f])→t3 8=.bool kn→K t3 h3 n3:=by
     intro t3 h3 n3 f kn b14 hb14 d1 d2 d3 d4 d5 d6 d7 d8 d9 d10 d11 d12 d13 d14;refine hK _ _ _ ?_;clear hK;obtain⟨c2,c3,c5⟩:=d10;refine W.seqk fun K hK=>?_
     have nxC:∀(t4:Fr) (h4:Heap) (n4:Nat),n2+17≤n4→h4 b6=some (.cells [[.int .i64 (i:Int)]])→h4 n=some (.cells [[.ptr bE 0 0]])→h4 b1=some (.cells [[v]])→h4 b3=some (.cells [[rv]])→SlL eRw 25 h4 (n+4) n4 rv B→EC g bE bM gp (C+((w.length+1 - i:Nat):Int)) h4 n0→(∀y,y<n→y≠bE→y≠bM→h4 y=h y)→(t4 2=.ptr n 0 0∧t4 3=.ptr b1 0 0∧t4 5=.ptr b3 0 0)→t4 6=.ptr b6 0 0→t4 7=.ptr b14 0 0→h4 b14=some (.cells [eRw f])→K t4 h4 n4:=by
      intro t4 h4 n4 f1 f3 f4 f5 f6 f7 f8 f9 f10 f11 f12 f13;refine hK _ _ _ ?_;clear hK;have o3:∀j,¬b3=n4+j:=fun j=>by omega
      have o14:∀j,¬b14=n4+j:=fun j=>by omega
      have x0:∀j,¬n=n4+j:=fun j=>by omega
      have x1:∀j,¬b1=n4+j:=fun j=>by omega
      have x6:∀j,¬b6=n4+j:=fun j=>by omega
      have hBl:B.length≤30:=by omega
      obtain⟨g2,g3,g5⟩:=f10;refine W.region (k:=5) rfl ?_;rcases id f7 with ⟨w0,w5⟩|⟨b,w5,w1,w2,w3⟩
      ·simp only[go_sem,f12,f13,g5,f6,w5,o3,o14,eR_len,eR_scal,eR_tk];refine nx1 _ _ _ f (.sl (n4+3) 0 1 25) (by omega) d2 ?_ ?_ ?_ ?_ (.inr ⟨n4+3,by rw[w0];rfl,by omega,by omega, ?_⟩) (f8.next (Nat.le_refl _) (fun y hy=>?_)) (fun y hy h1 h2=>?_) ⟨g2,g3,g5⟩ f11
       ·simp only[go_sem,x6,show ¬b6=b3 by omega,f3]
       ·simp only[go_sem,x0,show ¬n=b3 by omega,f4]
       ·simp only[go_sem,x1,show ¬b1=b3 by omega,f5]
       ·simp only[go_sem]
       ·rw[w0];simp only[go_sem,show ¬n4+3=b3 by omega];rfl
       ·simp only[go_sem,show ∀j,¬y=n4+j from fun j=>by omega,show ¬y=b3 by omega]
       ·simp only[go_sem,show ∀j,¬y=n4+j from fun j=>by omega,show ¬y=b3 by omega];exact f9 y hy h1 h2
      ·have zb:∀j,¬b=n4+j:=fun j=>by omega
       have lb:∀j,(b<n4+j)=True:=fun j=>eq_true (by omega)
       have tkL:(B.map eRw).take B.length=B.map eRw:=List.take_of_length_le (by simp);simp only[go_sem,f12,f13,g5,f6,w5,w3,zb,lb,tkL,List.length_map,o3,o14,eR_len,eR_scal,eR_tk,show(1+B.length)*100≤140737488355328 by omega,and_false,if_false,Nat.lt_irrefl];refine nx1 _ _ _ f (.sl (n4+3) 0 (1+B.length) 25) (by omega) d2 ?_ ?_ ?_ ?_ (.inr ⟨n4+3,by rw[List.length_cons,Nat.add_comm B.length],by omega,by omega, ?_⟩) (f8.next (Nat.le_refl _) (fun y hy=>?_)) (fun y hy h1 h2=>?_) ⟨g2,g3,g5⟩ f11
       ·simp only[go_sem,x6,show ¬b6=b3 by omega,f3]
       ·simp only[go_sem,x0,show ¬n=b3 by omega,f4]
       ·simp only[go_sem,x1,show ¬b1=b3 by omega,f5]
       ·simp only[go_sem]
       ·simp only[go_sem,show ¬n4+3=b3 by omega];rfl
       ·simp only[go_sem,show ∀j,¬y=n4+j from fun j=>by omega,show ¬y=b3 by omega]
       ·simp only[go_sem,show ∀j,¬y=n4+j from fun j=>by omega,show ¬y=b3 by omega];exact f9 y hy h1 h2
     clear hK;refine W.rseq (k:=2) rfl fun K hK=>?_;simp only[go_sem,d14];refine hK _ _ _ ?_;clear hK K
     cases kn
     ·refine W.condT (by simp only[go_sem]) ?_;obtain⟨c,m4,⟨mc0,mc1⟩,_⟩:=d8.args;refine W.region (k:=8) rfl ?_;simp only[go_sem,c2,d4,m4,wrap64 (show -9223372036854775808≤c+1 by omega) (show c+1<9223372036854775808 by omega)];have xE:∀z,n≤z→¬z=bE:=fun z hz=>by omega
      refine nxC _ _ _ (by omega) ?_ ?_ ?_ ?_ (d7.next rfl (fun x hx hx'=>?_) (by omega) (Nat.le_refl _)) (d8.em.ec (by omega) (by omega)) (fun y hy h1 h2=>?_) ⟨c2,c3,c5⟩ d11 d12 ?_
      ·simp only[go_sem,xE b6 (by omega),d3]
      ·simp only[go_sem,xE n (by omega),d4]
      ·simp only[go_sem,xE b1 (by omega),d5]
      ·simp only[go_sem,xE b3 (by omega),d6]
      ·simp only[go_sem,xE x (by omega)]
      ·simp only[go_sem,h1];exact d9 y hy h1 h2
      ·simp only[go_sem,xE b14 (by omega),d13]
     ·refine W.condF (by simp only[go_sem]) ?_;refine W.skip ?_;simp only[go_sem];exact nxC _ _ _ (by omega) d3 d4 d5 d6 (d7.next rfl (fun x hx hx'=>rfl) (by omega) (Nat.le_refl _)) (d8.up (by omega)) d9 ⟨c2,c3,c5⟩ d11 d12 d13
    clear hK;have hfz:=fz77 (w.drop i) (hkd i);have hle:(∀e∈w.map eIn,e.length=1)=True:=len_map (e:=eIn) (sz:=1) fun _=>rfl
    have hget:=fz76 hg i12.em (show n0≤n2+17 by omega) w hw hk v (hv2.next (show n2≤n2+17 by omega) (fun _ _=>rfl)) i hi rv B ((i9.next rfl (fun x hx hx'=>rfl) (show n2≤n2+17 by omega) (Nat.le_refl _)).lo) hRB n b1 b6 b3 (by omega) (by omega) (by omega) (by omega) i6 i7 e6 i8
    have keep:∀(h5:Heap) (f:Nat→Nat) (n5:Nat) (o:Option AO),n2+17≤n5→(∀y,y<n2+17→y≠bM→h5 y=h2 y)→EM g bE bM gp h5 n0→∀(t3:Fr) (kn:Bool),Rc g (w.drop i) f→t3 2=.ptr n 0 0→t3 3=.ptr b1 0 0→t3 5=.ptr b3 0 0→t3 6=.ptr b6 0 0→t3 7=.ptr (n2+14) 0 0→t3 8=.bool kn→K t3 (upd (upd h5 (n2+14) o) (n2+14) (some (.cells [eRw f]))) n5:=by
     intro h5 f n5 o q1 q2 q3 t3 kn q4 s2 s3 s5 s6 s7 s8;have qM:∀z,n≤z→z≠bM:=fun z hz=>by omega
     have qz:∀z,z<n2→¬z=n2+14:=fun z hz=>by omega
     refine nxB _ _ _ f kn (n2+14) rfl q1 q4 ?_ ?_ ?_ ?_ (i9.next rfl (fun x hx hx'=>?_) (by omega) (Nat.le_refl _)) ((i12.keep q3 (q2 bE (by omega) mne)).next (Nat.le_refl _) (fun y hy=>?_)) (fun y hy h1 h2=>?_) ⟨s2,s3,s5⟩ s6 s7 (by simp only[go_sem]) s8
     ·simp only[go_sem,qz b6 (by omega),q2 b6 (by omega) (qM _ (by omega)),e6]
     ·simp only[go_sem,qz n (by omega),q2 n (by omega) (qM _ (by omega)),i6]
     ·simp only[go_sem,qz b1 (by omega),q2 b1 (by omega) (qM _ (by omega)),i7]
     ·simp only[go_sem,qz b3 (by omega),q2 b3 (by omega) (qM _ (by omega)),i8]
     ·simp only[go_sem,qz x (by omega),q2 x (by omega) (qM _ (by omega))]
     ·simp only[go_sem,qz y (by omega)]
     ·simp only[go_sem,qz y (by omega),q2 y (by omega) h2];exact i13 y hy h1 h2
    refine W.drawB (k:=15) rfl ?_;refine VB.run 8 rfl ?_;rcases hvl with rfl|⟨bw,rfl⟩
    ·simp only[go_sem,a2,a3,a5,i15,i6,i7,e6,hle,ro_drop,List.length_map,hi,y0,y1,y3,y6];refine VCall.frzq (as':=[.ro ((w.drop i).map eIn)]) 6 (rfs_cons (by simp[rf]) rfs_nil) hfz ?_;simp only[go_sem,a2,a3,a5,i15];refine VB.callK tabOK follows [] [n2+14] rfl rfl rfl rfl rfl rfl rfl hget (fun r h5 n5 ⟨f,kn,r1,r2,r3,r4,r5⟩=>⟨fun _ hq=>(by cases hq),fun b hb=>?_⟩) fun r h5 n5 ⟨f,kn,r1,r2,r3,r4,r5⟩=>?_
     ·have:b=n2+14:=by simpa using hb
      exact r5 b (by omega) (by omega)
     subst r1;refine VB.run 3 rfl ?_;simp only[go_sem];refine VB.allocN tabOK rfl rfl rfl rfl th165 (by simp[scal]) ?_;refine VB.run 2 rfl ?_;simp only[go_sem,eR_len,eR_scal,eR_tk,eR_dz,eR_d,List.append_nil];refine VB.nil ?_;refine⟨drawOK_re (ren1_inj (n2+14)) (by simp only[List.reverse_cons,List.reverse_nil,List.nil_append,List.cons_append,List.map_cons,List.map_nil,Cls.re,ren1_at];kernel_rfl), ?_⟩;exact keep _ _ _ _ r4 r5 r3 _ kn r2 a2 a3 a5 i15 rfl rfl
    ·obtain⟨q0,q1⟩:bw<n2∧h2 bw=some (.cells (w.map eIn)):=by
      rcases hv2 with q|⟨b,q,q1,q2⟩
      ·cases q
      ·injection q with q
       subst q;exact⟨q1,q2⟩
     have yw:∀j,(bw<n2+j)=True:=fun j=>eq_true (by omega)
     simp only[go_sem,a2,a3,a5,i15,i6,i7,e6,q1,hle,ro_drop,List.length_map,hi,y0,y1,y3,y6,yw];refine VCall.frzq (as':=[.ro ((w.drop i).map eIn)]) 6 (rfs_cons (rf_slw hi q1) rfs_nil) hfz ?_;simp only[go_sem,a2,a3,a5,i15];refine VB.callK tabOK follows [] [n2+14] rfl rfl rfl rfl rfl rfl rfl hget (fun r h5 n5 ⟨f,kn,r1,r2,r3,r4,r5⟩=>⟨fun _ hq=>(by cases hq),fun b hb=>?_⟩) fun r h5 n5 ⟨f,kn,r1,r2,r3,r4,r5⟩=>?_
     ·have:b=n2+14:=by simpa using hb
      exact r5 b (by omega) (by omega)
     subst r1;refine VB.run 3 rfl ?_;simp only[go_sem];refine VB.allocN tabOK rfl rfl rfl rfl th165 (by simp[scal]) ?_;refine VB.run 2 rfl ?_;simp only[go_sem,eR_len,eR_scal,eR_tk,eR_dz,eR_d,List.append_nil];refine VB.nil ?_;refine⟨drawOK_re (ren1_inj (n2+14)) (by simp only[List.reverse_cons,List.reverse_nil,List.nil_append,List.cons_append,List.map_cons,List.map_nil,Cls.re,ren1_at];kernel_rfl), ?_⟩;exact keep _ _ _ _ r4 r5 r3 _ kn r2 a2 a3 a5 i15 rfl rfl
  clear hK;have hEM:∀(o1 o2 o3 o4:Option AO),EC g bE bM gp C (upd (upd (upd (upd (upd h n o1) (n+1) o2) (n+3) o3) (n+6) o4) (n+6) (some (.cells [[.int .i64 w.length]]))) n0:=fun o1 o2 o3 o4=>m.next (Nat.le_refl _) (fun y hy=>by simp only[go_sem,show ∀j,¬y=n+j from fun j=>by omega,show ¬y=n by omega])
  rcases hvl with rfl|⟨bw,rfl⟩
  ·simp only[go_sem,s2,s3,List.length_map];exact loop _ _ _ (n+1) (n+3) rfl rfl (by omega) s2 s3 rfl rfl (by simp only[go_sem]) (by simp only[go_sem]) (by simp only[go_sem]) (by simp only[go_sem]) (hEM _ _ _ _) (fun y hy _ _=>by simp only[go_sem,show ∀j,¬y=n+j from fun j=>by omega,show ¬y=n by omega])
  ·simp only[go_sem,s2,s3,List.length_map];exact loop _ _ _ (n+1) (n+3) rfl rfl (by omega) s2 s3 rfl rfl (by simp only[go_sem]) (by simp only[go_sem]) (by simp only[go_sem]) (by simp only[go_sem]) (hEM _ _ _ _) (fun y hy _ _=>by simp only[go_sem,show ∀j,¬y=n+j from fun j=>by omega,show ¬y=n by omega])
 rcases hvl with rfl|⟨bw,rfl⟩
 ·simp only[go_sem];exact main _ rfl rfl
 ·simp only[go_sem];exact main _ rfl rfl
end Go.Av
