/-
  Layer 23: how a word is mended. Conditions: none.
-/
import Derived.Test.YtjpkjbobcicfoaaGreatDoorM6
import Derived.Test.YtjpkjbobcicfoaaGreatDoorZ9
import Derived.Test.YtjpkjbobcicfoaaGreatDoorZE
import Derived.Test.YtjpkjbobcicfoaaGreatDoorEJ
import Derived.Test.YtjpkjbobcicfoaaGreatDoorET
set_option linter.unusedSimpArgs false
set_option linter.unusedVariables false
namespace Go.Av
open Go.Proofs
set_option maxRecDepth 100000
def insE (pos:Int) (l:List Int):List Ed:=l.map fun t=>⟨pos,false,t⟩
theorem insE_snoc {pos:Int} {l:List Int} {k:Nat} {x:Int} (h:l[k]?=some x):insE pos (l.take (k+1))=insE pos (l.take k)++[⟨pos,false,x⟩]:=by
 rw[insE,insE,List.take_add_one,h,List.map_append];rfl
set_option maxHeartbeats 16000000 in
theorem fz101 {g:Gr} (hg:SmG g) {bm:Nat} {row:List Int} {ed:List Ed} {h:Heap} {n:Nat} (m:MD g bm row ed h n) (hf:fitG g row=true) (hed:ed.length<2^29) (pos:Int):
  FH pg Tq 101 [.ptr bm 0 0,.int .i64 pos] h n fun r h' n'=>∃e:Int,r=.int .i64 e∧n≤n'∧(∀y,y<bm→h' y=h y)∧(e=0→∃t,MD g bm (row++t) (ed++insE pos t) h' n'∧(row++t).length≤24∧Der g (row++t) [⟨true,g.start⟩] 0 (row++t).length):=by
 obtain⟨m1,rv,ev,m2,m3,m4⟩:=id m;have hlen:=fit_len hf;obtain⟨L,h1,h2,h3⟩:=fz102 g hg.small row (by omega);have hL:=h3 hf;have hG:=fit_good hf;obtain⟨_,_,⟨hs0,hs1⟩,_⟩:=right_in hg.right;obtain⟨⟨hn1,hn2⟩,_⟩:=right_in hg.right
 have hfr:∀(H:Heap),(∀y,y<n→H y=h y)→rf true 8 H rv=some (.ro (row.map eIn)):=fun H hH=>by
  rcases m3 with rfl|⟨_,b,rfl,_,q1,q⟩
  ·simp[rf]
  ·exact rf_sla (d:=7) ((hH b q1).trans q) (by simp) rfe_in
 have hb:=hL.2 0 (by rw[hL.1];omega);obtain⟨ν,hν⟩:∃ν:Nat,g.start=ν:=⟨g.start.toNat,by omega⟩;have hbit:=hb.2.1 ν (by omega) row.length;rw[List.drop_zero] at hbit;have hLl:=hL.1;have hrw:=rowsC_in hL;have zm:∀j,¬bm=n+j:=fun j=>by omega
 refine FH.of (N:=95) (rs:=#[.tmp 4]) Tryz.func101 rfl rfl (of_decide_eq_true rfl) rfl (by decide) ?_;refine W.rseq (k:=1) rfl fun K hK=>?_;simp only[go_sem];refine hK _ _ _ ?_;clear hK K;refine W.seq ?_;refine W.dseq (k:=10) rfl fun K hK=>?_;simp only[go_sem,m2,zm,show ∀j,(bm<n+j)=True from fun j=>eq_true (by omega)]
 refine VCall.frzq (as':=[.agg (eGr g),.ro (row.map eIn)]) 9 (rfs_cons (by simp[rf,rfs,eGr]) (rfs_cons (hfr _ fun _ _=>rfl) rfs_nil)) h1 ?_;simp only[go_sem,m2,zm,show ∀j,(bm<n+j)=True from fun j=>eq_true (by omega)];refine hK _ _ _ _ (by kernel_rfl) ?_;clear hK K
 cases L with
 |nil=>rw[List.length_nil] at hLl;omega
 |cons f L=>
 have hfν:f ν<2^32:=hrw 0 ν;have hw1:=shr32 (x:=f ν) (show row.length<32 by omega);have hw2:=and32 (x:=f ν / 2^row.length) (Nat.lt_of_le_of_lt (Nat.div_le_self _ _) hfν);have hra:rowAt (f::L) 0=f:=rfl;rw[hra] at hbit;have hlr:∀(t:Fr) (h5:Heap) (n5:Nat),True:=fun _ _ _=>trivial
 rcases m3 with rfl|⟨hre,b,rfl,b1,b2,b3⟩
 all_goals
  refine W.dseq (k:=18) rfl fun K hK=>?_;simp only[go_sem,m2,zm,show ∀j,(bm<n+j)=True from fun j=>eq_true (by omega),List.map_cons,List.length_map,List.length_cons,show(0:Int)<((L.length+1:Nat):Int) by omega,eR_len,eR_get (show ν<25 by omega),eR_scal,hν,hw1,hw2,bit_is1,Nat.mul_one,show(ν≤24)=True from eq_true (by omega),show((ν:Int)<24)=True from eq_true (by omega),show(0:Int)≤(ν:Int) by omega];refine hK _ _ _ _ (by kernel_rfl) ?_;clear hK K
  cases hbb:(f ν).testBit row.length
  ·refine W.condF (by simp only[go_sem]) ?_;refine W.skip ?_;simp only[go_sem];refine W.dseq (k:=14) rfl fun K hK=>?_;simp only[go_sem,m2,zm,show ∀j,(bm<n+j)=True from fun j=>eq_true (by omega)]
   refine VCall.frzq (as':=[.agg (eGr g),.ro (row.map eIn),.int .i64 2]) 9 (rfs_cons (by simp[rf,rfs,eGr]) (rfs_cons (hfr _ fun _ _=>rfl) (rfs_cons (by simp[rf]) rfs_nil))) (fz41 g hg.small row 2 (f::L) h1 h2 h3) ?_;rw[lead_by hL (by omega) (by omega)];obtain⟨E,l,hEl⟩:∃E l,byL g row 2 (f::L)=(E,l):=⟨_,_,rfl⟩;simp only[go_sem,hEl];refine hK _ _ _ _ (by kernel_rfl) ?_;clear hK K;refine W.seq ?_;by_cases hE:E=0
   ·subst hE;refine W.rseq (k:=2) rfl fun K hK=>?_;simp only[go_sem];refine hK _ _ _ ?_;clear hK K;refine W.condF (by simp only[go_sem]) ?_;refine W.skip ?_;simp only[go_sem]
    have hok:Ok g row ((2:Int)=2) [⟨true,g.start⟩] 0:=by
     refine(start_ok hG hL hlen).1 ?_;cases hgd:(goodS g row 2 (f::L)).testBit 0
     ·rw[by_no (by rw[hgd];decide)] at hEl;injection hEl with q1 q2
      cases q1
     ·rfl
    have hsp:=by_spec hG hL hlen hok;rw[hEl] at hsp;rcases hsp with q|⟨_,t,q1,_⟩
    ·cases q
    have hll:l.length≤2000:=by
     have:=by_len (g:=g) (w:=row) (kind:=2) (l:=f::L);rw[hEl] at this;exact this
    obtain⟨v,hv⟩:∃v,v=row++t:=⟨_,rfl⟩;have hvl:v.length=row.length+t.length:=by rw[hv,List.length_append]
    have hvd:(v.map eIn).drop row.length=t.map eIn:=by rw[←List.map_drop,hv,List.drop_left]
    have htk:(t.map eIn).take (v.length - row.length)=t.map eIn:=List.take_of_length_le (by rw[List.length_map];omega);have hrep:replayL g l=(0,row++t):=(replay_rep hg.right hll).trans q1;have hder:=(rep_der l _ _ _ q1).2;rw[List.length_nil] at hder;refine W.rseq (k:=11) rfl fun K hK=>?_;simp only[go_sem,m2,zm,show ∀j,(bm<n+j)=True from fun j=>eq_true (by omega)]
    refine VCall.frzq (as':=[.agg (eGr g),.ro (l.map eIn)]) 9 (rfs_cons (by simp[rf,rfs,eGr]) (rfs_cons (by simp[rf]) rfs_nil)) (fz167 g hg.small l (by omega)) ?_;rw[hrep];simp only[go_sem];refine hK _ _ _ ?_
    first|clear hK K|clear hK|skip
    rw[←hv];refine W.seq ?_;by_cases hvs:24<v.length
    ·refine W.rseq (k:=3) rfl fun K hK=>?_;simp only[go_sem,List.length_map,show((24:Int)<(v.length:Nat))=True from eq_true (by omega)];refine hK _ _ _ ?_;clear hK K;refine W.condT (by simp only[go_sem]) ?_;refine W.rseq (k:=1) rfl fun K hK=>?_;simp only[go_sem];refine hK _ _ _ ?_;clear hK K;refine W.ret ?_;simp only[go_sem]
     exact⟨5,rfl,by omega,by simp,fun q=>by cases q⟩
    ·refine W.rseq (k:=3) rfl fun K hK=>?_;simp only[go_sem,List.length_map,show((24:Int)<(v.length:Nat))=False from eq_false (by omega)];refine hK _ _ _ ?_;clear hK K;refine W.condF (by simp only[go_sem]) ?_;refine W.skip ?_;simp only[go_sem];refine W.seqk fun K hK=>?_
     have nx:∀(t2:Fr) (h2:Heap) (n2:Nat),n≤n2→t2 0=.ptr bm 0 0→t2 8=.ro (v.map eIn)→MD g bm row (ed++insE pos t) h2 n2→(∀y,y<bm→h2 y=h y)→K t2 h2 n2:=by
      intro t2 h2 n2 e1 e2 e3 e4 e5;obtain⟨_,rv2,ev2,q2,q3,q4⟩:=e4;refine hK _ _ _ ?_
      first|clear hK K|clear hK|skip
      refine W.rseq (k:=5) rfl fun K hK=>?_;simp only[go_sem,e2,e3,q2,show ∀j,¬bm=n2+j from fun j=>by omega];refine hK _ _ _ ?_;clear hK K;refine W.rseq (k:=1) rfl fun K hK=>?_;simp only[go_sem];refine hK _ _ _ ?_;clear hK K;refine W.ret ?_;simp only[go_sem]
      refine⟨0,rfl,by omega,fun y hy=>?_,fun _=>⟨t,⟨by omega,.ro (v.map eIn),ev2, ?_,.inl (by rw[hv]), ?_⟩,by rw[←hv];omega, ?_⟩⟩
      ·simp only[go_sem,show ¬y=bm by omega];exact e5 y hy
      ·simp only[go_sem]
      ·exact q4.next rfl (fun x hx hx'=>by simp only[go_sem,show ¬x=bm by omega]) (by omega) (Nat.le_refl _)
      ·exact hder
     clear hK;have hle:(∀e∈v.map eIn,e.length=1)=True:=len_map (e:=eIn) (sz:=1) fun _=>rfl
     refine W.rseq (k:=9) rfl fun K hK=>?_;simp only[go_sem,m2,zm,hvd,hle,htk,List.length_map,Nat.sub_zero,show(0:Int)≤(row.length:Nat) by omega,show((row.length:Nat)≤v.length)=True from eq_true (by omega)];refine hK _ _ _ ?_;clear hK K
     refine W.block (W.while (fun mm t2 h2 n2=>∃k:Nat,mm=t.length - k∧k≤t.length∧n≤n2∧(∀y,y<bm→h2 y=h y)∧MD g bm row (ed++insE pos (t.take k)) h2 n2∧(t2 0=.ptr bm 0 0∧t2 1=.int .i64 pos∧t2 8=.ro (v.map eIn)∧t2 72=.ro (t.map eIn)∧t2 73=.int .i64 t.length)∧t2 74=.int .i64 k) t.length
      ⟨0,by simp,by simp,by omega,fun _ _=>rfl,by rw[List.take_zero,insE,List.map_nil,List.append_nil];exact m.next (by omega) (fun _ _=>rfl),⟨rfl,rfl,rfl,rfl,rfl⟩,rfl⟩ fun mm t2 h2 n2 ⟨k,i1,i2,i3,i4,i5,⟨a0,a1,a8,a72,a73⟩,i6⟩=>?_)
     refine W.rseq (k:=1) rfl fun K hK=>?_;simp only[go_sem,a73,i6];refine hK _ _ _ ?_;clear hK K;refine W.seq ?_
     refine W.cond rfl (fun hc=>?_) fun hc=>?_
     ·refine W.skip ?_;simp only[go_sem];have hk:k<t.length:=by simp at hc;omega
      obtain⟨x,hx⟩:=get_some hk;have hxk:(t.map eIn)[k]?=some (eIn x):=by rw[List.getElem?_map,hx];rfl
      obtain⟨q1,rv2,ev2,q2,q3,q4⟩:=id i5;have z2:∀j,¬bm=n2+j:=fun j=>by omega
      refine W.seq ?_;refine W.block ?_;have hinl:(insE pos (t.take k)).length=k:=by rw[insE,List.length_map,List.length_take];omega
      have hedl:(ed++insE pos (t.take k)).length<2^30:=by rw[List.length_append,hinl];omega
      refine W.rseq (k:=3) rfl fun K hK=>?_;simp only[go_sem,a72,i6,hxk];refine hK _ _ _ ?_;clear hK K
      generalize hEd:ed++insE pos (t.take k)=eds at q4 hedl;rcases q4 with ⟨w0,rfl⟩|⟨c,rfl,w1,w2,w3⟩
      ·refine W.region (k:=13) rfl ?_;simp only[go_sem,a0,a1,q2,z2];refine W.region (k:=2) rfl ?_;simp only[go_sem,i6];refine⟨t.length - (k+1),by omega,k+1,rfl,by omega,by omega,fun y hy=>?_,⟨by omega,rv2,.sl (n2+13) 0 1 3,by simp only[go_sem], ?_,.inr ⟨n2+13, ?_,by omega,by omega, ?_⟩⟩,⟨a0,a1,a8,a72,a73⟩, ?_⟩
       ·simp only[go_sem,show ¬y=bm by omega,show ∀j,¬y=n2+j from fun j=>by omega];exact i4 y hy
       ·refine q3.imp id fun⟨q0,b,q1,q2,q3,q4⟩=>⟨q0,b,q1,q2,by omega, ?_⟩
        simp only[go_sem,show ¬b=bm by omega,show ∀j,¬b=n2+j from fun j=>by omega,q4]
       ·rw[insE_snoc hx,←List.append_assoc,hEd,w0];rfl
       ·rw[insE_snoc hx,←List.append_assoc,hEd,w0];simp only[go_sem,show ¬n2+13=bm by omega];rfl
       ·rw[wrap64 (by omega) (by omega)];rfl
      ·refine W.region (k:=13) rfl ?_;simp only[go_sem,a0,a1,q2,z2,w3,List.length_map,show ¬bm=c by omega,show ∀j,¬c=n2+j from fun j=>by omega,and_false,if_false,show(eds.length+1)*24≤140737488355328 by omega];refine W.region (k:=2) rfl ?_;simp only[go_sem,i6];refine⟨t.length - (k+1),by omega,k+1,rfl,by omega,by omega,fun y hy=>?_,⟨by omega,rv2,.sl (n2+13) 0 (eds.length+1) 3,by simp only[go_sem], ?_,.inr ⟨n2+13, ?_,by omega,by omega, ?_⟩⟩,⟨a0,a1,a8,a72,a73⟩, ?_⟩
       ·simp only[go_sem,show ¬y=bm by omega,show ¬y=c by omega,show ∀j,¬y=n2+j from fun j=>by omega];exact i4 y hy
       ·refine q3.imp id fun⟨q0,b,q1,q2,q3,q4⟩=>⟨q0,b,q1,q2,by omega, ?_⟩
        simp only[go_sem,show ¬b=bm by omega,show ¬b=c from sl_apart q0 q4 w3,show ∀j,¬b=n2+j from fun j=>by omega,q4]
       ·rw[insE_snoc hx,←List.append_assoc,hEd,List.length_append];rfl
       ·rw[insE_snoc hx,←List.append_assoc,hEd];simp only[go_sem,show ¬n2+13=bm by omega];rw[List.map_append];rfl
       ·rw[wrap64 (by omega) (by omega)];rfl
     ·refine W.exit ?_;simp only[go_sem];have hk:k=t.length:=by simp at hc;omega
      rw[hk,List.take_length] at i5;exact nx _ _ _ (by omega) a0 a8 (i5.next (by omega) (fun _ _=>rfl)) i4
   ·refine W.rseq (k:=2) rfl fun K hK=>?_;simp only[go_sem,hE];refine hK _ _ _ ?_;clear hK K;refine W.condT (by simp only[go_sem,hE]) ?_;refine W.rseq (k:=2) rfl fun K hK=>?_;simp only[go_sem];refine hK _ _ _ ?_;clear hK K;refine W.ret ?_;simp only[go_sem]
    exact⟨E,rfl,by omega,by simp,fun q=>absurd q hE⟩
  ·refine W.condT (by simp only[go_sem]) ?_;refine W.rseq (k:=1) rfl fun K hK=>?_;simp only[go_sem];refine hK _ _ _ ?_;clear hK K;refine W.ret ?_;simp only[go_sem]
   refine⟨0,rfl,by omega,by simp,fun _=>⟨[], ?_,by rw[List.append_nil];exact hlen, ?_⟩⟩
   ·rw[List.append_nil,insE,List.map_nil,List.append_nil];exact m.next (by omega) (fun _ _=>rfl)
   ·rw[List.append_nil,hν];exact hbit.1 hbb
end Go.Av
namespace Go.Av
open Go.Proofs
set_option maxRecDepth 100000
theorem PT.pf {f:FuncId} {args:List AV} {sz:Nat} {es:List (List AV)} (h:PT pg Tq f args sz es):PF pg Tq f args (.ro es):=by
 obtain⟨r,h',n',hb,b,rfl,es0,hh,hl,d',hR⟩:=h;refine⟨_,h',n',hb,d'+1,fun fr=>?_⟩;refine rf_sla (d:=d') hh hl.symm ((rf_sub_all (fun y o e=>?_) fr d').2.2 _ _ (hR fr));rw[upd_app] at e;split at e
 ·cases e
 ·exact e
def PQ (f:FuncId) (args:List AV) (res:AV):Prop:=FH pg Tq f args h0 0 fun r h1 _=>∃d,rf true d h1 r=some res
theorem VCall.frzw {s:Nat} {g:FuncId} {args:List AV} {h:Heap} {x:Nat} {k:Cls→AV→Heap→Nat→Prop} {res:AV} (d:Nat) (hf:PQ g args res) (hr:rfs true d h0 args=some args) (hk:k .L res h x):VCall pg Tq s g args h x k:=by
 obtain⟨r,h',n',hb,d',hR⟩:=hf;exact .inr (.inl ⟨false,d,d',_,r,res,h',n',hr,hb,hR,hk⟩)
theorem fp87 (l:List Int) (hl:l.length<2^40):PF pg Tq 87 [.ro (l.map eIn)] (.ro (l.map eIn)):=by
 by_cases hne:l=[]
 ·subst hne;obtain⟨r,h',n',hb,rfl,rfl,rfl⟩:=fe87 h0 0;exact⟨_,_,_,hb,1,fun fr=>by simp[rf]⟩
 ·exact(fz87 l hl hne).pf
def AInv (w:List Int) (i:Nat) (row:List Int) (ed:List Ed):Prop:=∀l,(∀x∈l.head?,(i:Int)≤x.pos)→applF w (ed++l) 0=row++applF w l i
theorem ainv_at {w:List Int} {i:Nat} (hi:i≤w.length):AInv w i (w.take i) []:=by
 intro l hl;rw[List.nil_append]
 cases l with
 |nil=>rw[applF,applF,List.drop_zero,List.take_append_drop]
 |cons x l=>
  have hx:(i:Int)≤x.pos:=hl x rfl;rw[applF,applF,List.drop_zero,←List.append_assoc]
  congr 1
  rw[Nat.sub_zero,show x.pos.toNat=i+(x.pos.toNat - i) by omega,List.take_add,show i+(x.pos.toNat - i) - i=x.pos.toNat - i by omega]
theorem appl_one {w:List Int} {i:Nat} {t:Int} (ht:w[i]?=some t) {l:List Ed} (hl:∀x∈l.head?,((i+1:Nat):Int)≤x.pos):applF w l i=t::applF w l (i+1):=by
 cases l with
 |nil=>rw[applF,applF,drop_one ht]
 |cons x l=>
  have hx:((i+1:Nat):Int)≤x.pos:=hl x rfl;rw[applF,applF,drop_one ht,show x.pos.toNat - i=(x.pos.toNat - (i+1))+1 by omega,List.take_succ_cons,List.cons_append]
theorem head_le {i j:Nat} (h:i≤j) {l:List Ed} (hl:∀x∈l.head?,(j:Int)≤x.pos):∀x∈l.head?,(i:Int)≤x.pos:=fun x hx=>by have:=hl x hx;omega
theorem ainv_tok {g:Gr} {w:List Int} {i:Nat} {t:Int} (ht:w[i]?=some t) {row row':List Int} {ed ed':List Ed} (h:AInv w i row ed) (hR:TokR g i t row ed row' ed'):AInv w (i+1) row' ed':=by
 intro l hl;rcases hR with ⟨rfl,rfl,_⟩|⟨a,rfl,rfl,_⟩|⟨rfl,rfl⟩
 ·rw[h l (head_le (Nat.le_succ i) hl),appl_one ht hl,List.append_assoc];rfl
 ·rw[List.append_assoc,h _ (fun x hx=>by cases hx;exact Int.le_refl _),List.singleton_append,applF,if_neg (show ¬false=true from Bool.false_ne_true),Int.toNat_natCast,Nat.sub_self,List.take_zero,List.nil_append,appl_one ht hl,List.append_assoc];rfl
 ·rw[List.append_assoc,h _ (fun x hx=>by cases hx;exact Int.le_refl _),List.singleton_append,applF,if_pos rfl,Int.toNat_natCast,Nat.sub_self,List.take_zero,List.nil_append]
theorem appl_ins {w:List Int}:∀(t:List Int),applF w (insE w.length t) w.length=t
 |[]=>by rw[insE,List.map_nil,applF,List.drop_length]
 |x::t=>by
  rw[insE,List.map_cons,applF,if_neg (show ¬false=true from Bool.false_ne_true),Int.toNat_natCast,Nat.sub_self,List.take_zero,List.nil_append]
  congr 1
  exact appl_ins t
theorem ainv_end {w row:List Int} {ed:List Ed} (h:AInv w w.length row ed) (t:List Int):applF w (ed++insE w.length t) 0=row++t:=by
 have hh:∀x∈(insE w.length t).head?,(w.length:Int)≤x.pos:=fun x hx=>by
  cases t with
  |nil=>cases hx
  |cons y t=>cases hx;exact Int.le_refl _
 rw[h _ hh,appl_ins]
def MInv (N i:Nat) (ed:List Ed):Prop:=∃(pos:Int) (d:Bool),0≤pos∧pos≤i∧(d=true→pos<i)∧∀l,mayF (ed++l) 0 false N=mayF l pos d N
theorem minv_nil {N i:Nat}:MInv N i []:=⟨0,false,by omega,by omega,fun q=>(by cases q),fun l=>rfl⟩
theorem fine_ins {N:Nat} {i:Nat} {a pos:Int} {d:Bool} (hi:i≤N) (h1:pos≤i) (h2:d=true→pos<i) (ha:0≤a) (hb:a<16):fineB ⟨i,false,a⟩ pos d N=true:=by
 unfold fineB
 rw[if_neg (fun q=>by
  rcases q with q|q|q|⟨q1,q2⟩
  ·have:(i:Int)<0:=q;omega
  ·have:(i:Int)>N:=q;omega
  ·have:(i:Int)<pos:=q;omega
  ·have:(i:Int)=pos:=q2
   have:=h2 q1;omega)]
 rw[if_neg (show ¬false=true from Bool.false_ne_true)];simp[ha,hb]
theorem fine_drop {N:Nat} {i:Nat} {pos:Int} {d:Bool} (hi:i<N) (h1:pos≤i) (h2:d=true→pos<i):fineB ⟨i,true,0⟩ pos d N=true:=by
 unfold fineB
 rw[if_neg (fun q=>by
  rcases q with q|q|q|⟨q1,q2⟩
  ·have:(i:Int)<0:=q;omega
  ·have:(i:Int)>N:=q;omega
  ·have:(i:Int)<pos:=q;omega
  ·have:(i:Int)=pos:=q2
   have:=h2 q1;omega)]
 rw[if_pos rfl];simp[hi]
theorem minv_snoc {N i:Nat} {ed:List Ed} {x:Ed} (h:MInv N i ed) (hx:x.pos=i) (hf:∀pos d,pos≤(i:Int)→(d=true→pos<i)→fineB x pos d N=true):MInv N (i+1) (ed++[x])∧(x.drop=false→MInv N i (ed++[x])):=by
 obtain⟨pos,d,h1,h2,h3,h4⟩:=h
 have e:∀l,mayF (ed++[x]++l) 0 false N=mayF l x.pos x.drop N:=fun l=>by
  rw[List.append_assoc,h4,List.singleton_append,mayF,hf pos d h2 h3,Bool.true_and]
 exact⟨⟨x.pos,x.drop,by omega,by omega,fun _=>by omega,e⟩,fun q=>⟨x.pos,x.drop,by omega,by omega,fun q'=>(by rw[q] at q';cases q'),e⟩⟩
theorem minv_le {N i j:Nat} {ed:List Ed} (h:MInv N i ed) (hij:i≤j):MInv N j ed:=by
 obtain⟨pos,d,h1,h2,h3,h4⟩:=h;exact⟨pos,d,h1,by omega,fun q=>by have:=h3 q;omega,h4⟩
theorem minv_tok {g:Gr} {N i:Nat} {t:Int} (hi:i<N) (hT:g.terms≤16) {row row':List Int} {ed ed':List Ed} (h:MInv N i ed) (hR:TokR g i t row ed row' ed'):MInv N (i+1) ed'∧ed'.length≤ed.length+1:=by
 rcases hR with ⟨rfl,rfl,_⟩|⟨a,rfl,rfl,a0,a1,_⟩|⟨rfl,rfl⟩
 ·exact⟨minv_le h (by omega),by omega⟩
 ·exact⟨(minv_snoc h rfl fun pos d q1 q2=>fine_ins (by omega) q1 q2 a0 (by omega)).1,by simp⟩
 ·exact⟨(minv_snoc h rfl fun pos d q1 q2=>fine_drop hi q1 q2).1,by simp⟩
theorem minv_end {N:Nat}:∀(t:List Int) {ed:List Ed},(∀a∈t,0≤a∧a<16)→MInv N N ed→mayF (ed++insE N t) 0 false N=true
 |[],ed,_,h=>by
  obtain⟨pos,d,h1,h2,h3,h4⟩:=h;rw[h4];rfl
 |x::t,ed,ht,h=>by
  have hx:=ht x (List.mem_cons_self ..);have:=(minv_snoc (x:=⟨N,false,x⟩) h rfl fun pos d q1 q2=>fine_ins (Nat.le_refl _) q1 q2 hx.1 hx.2).2 rfl;have:=minv_end t (fun a ha=>ht a (List.mem_cons_of_mem _ ha)) this;rwa[List.append_assoc] at this
theorem fit_of {g:Gr} {u v:List Int} (h:fitG g u=true) (hv:∀a∈v,0≤a∧a<g.terms) (hl:v.length≤24):fitG g v=true:=by
 have hr:=fit_right h;obtain⟨_,⟨_,ht⟩,_⟩:=right_in hr;rw[fitG,fitsW,rightW,Bool.and_eq_true,Bool.and_eq_true,Bool.and_eq_true] at h ⊢;refine⟨h.1,⟨decide_eq_true (by omega),below_all fun j hj t e=>?_⟩,below_all fun j hj t e=>hv t (List.mem_of_getElem? e)⟩;have:=hv t (List.mem_of_getElem? e);omega
def EdOk (g:Gr) (w:List Int) (ed:List Ed) (row:List Int):Prop:=
 (ed=[]∧row=w)∨(ed≠[]∧ed.length<2^30∧mayF ed 0 false w.length=true∧applF w ed 0=row∧fitG g row=true∧Der g row [⟨true,g.start⟩] 0 row.length)
set_option maxHeartbeats 16000000 in
theorem fz39 {g:Gr} (hg:SmG g) (w:List Int) (hf:fitG g w=true) (hl24:w.length<24):∃(ed:List Ed) (row:List Int) (e:Int),PQ 39 [.agg (eGr g),.ro (w.map eIn)] (.tup [.ro (ed.map eEd),.ro (row.map eIn),.int .i64 e])∧(e=0→EdOk g w ed row):=by
 have hck:=hf;rw[fitG,Bool.and_eq_true] at hck;obtain⟨hck,hfw⟩:=hck;have hck:=of_decide_eq_true hck;obtain⟨_,⟨hT0,hT1⟩,_,_,hpr⟩:=right_in hg.right;obtain⟨r6,hQ,hr6⟩:=fz31 g hg w hf
 have hr6':∃(a N:Nat) (s:Bool),r6=.tup [.int .i64 a,.int .u32 N,.bool s]∧(s=true→a≤w.length∧N<2^17∧¬Der g w [⟨true,g.start⟩] 0 w.length):=by
  rcases hr6 with rfl|⟨a,N,rfl,q⟩
  ·exact⟨0,0,false,rfl,fun q=>by cases q⟩
  ·exact⟨a,N,true,rfl,fun _=>q⟩
 obtain⟨at',N,s,rfl,hs⟩:=hr6'
 have fin:FH pg Tq 39 [.agg (eGr g),.ro (w.map eIn)] h0 0 fun r h n=>∃(ed:List Ed) (row:List Int) (e:Int),(∃ev rv,r=.tup [ev,rv,.int .i64 e]∧rf true 6 h ev=some (.ro (ed.map eEd))∧rf true 6 h rv=some (.ro (row.map eIn)))∧(e=0→EdOk g w ed row):=by
  have bad:∀(H:Heap) (e:Int),e≠0→∃(ed:List Ed) (row:List Int) (e':Int),(∃ev rv,AV.tup [.nils,.nils,.int .i64 e]=.tup [ev,rv,.int .i64 e']∧rf true 6 H ev=some (.ro (ed.map eEd))∧rf true 6 H rv=some (.ro (row.map eIn)))∧(e'=0→EdOk g w ed row):=fun H e he=>
   ⟨[],[],e,⟨.nils,.nils,rfl,by simp[rf],by simp[rf]⟩,fun q=>absurd q he⟩
  refine FH.of (N:=80) (rs:=#[.tmp 4,.tmp 5,.tmp 6]) Tryz.func39 rfl rfl (of_decide_eq_true rfl) rfl (by decide) ?_;refine W.rseq (k:=4) rfl fun K hK=>?_;simp only[go_sem];refine hK _ _ _ ?_;clear hK K;refine W.seq ?_;refine W.rseq (k:=7) rfl fun K hK=>?_;simp only[go_sem];refine VCall.frz 6 (fz26 g hg.small) rfl ?_;try simp only[go_sem];refine hK _ _ _ ?_;clear hK K;refine W.rseq (k:=13) rfl fun K hK=>?_;simp only[go_sem,hck,hfw,List.length_map,show((w.length:Int)=24)=False from eq_false (by omega)];refine VCall.frz 6 (fz28 g w (by omega)) rfl ?_;try simp only[go_sem,hck,hfw,List.length_map,show((w.length:Int)=24)=False from eq_false (by omega)];refine hK _ _ _ ?_;clear hK K;refine W.condF (by simp only[go_sem]) ?_;refine W.skip ?_;simp only[go_sem];refine W.rseq (k:=10) rfl fun K hK=>?_;simp only[go_sem];refine VCall.frz 6 hQ rfl ?_;try simp only[go_sem];refine hK _ _ _ ?_;clear hK K;refine W.seq ?_
  cases s
  ·refine W.rseq (k:=2) rfl fun K hK=>?_;simp only[go_sem];refine hK _ _ _ ?_;clear hK K;refine W.condT (by simp only[go_sem]) ?_;refine W.rseq (k:=5) rfl fun K hK=>?_;simp only[go_sem];refine VCall.frz 6 (fp87 w (by omega)) rfl ?_;try simp only[go_sem];refine hK _ _ _ ?_;clear hK K;refine W.ret ?_;simp only[go_sem]
   exact⟨[],w,0,⟨_,_,rfl,by simp[rf],by simp[rf]⟩,fun _=> .inl ⟨rfl,rfl⟩⟩
  ·refine W.rseq (k:=2) rfl fun K hK=>?_;simp only[go_sem];refine hK _ _ _ ?_;clear hK K;refine W.condF (by simp only[go_sem]) ?_;refine W.skip ?_;simp only[go_sem]
   obtain⟨ha,hN,hD⟩:=hs rfl;have hle:(∀e∈w.map eIn,e.length=1)=True:=len_map (e:=eIn) (sz:=1) fun _=>rfl
   refine W.dseq (k:=8) rfl fun K hK=>?_;simp only[go_sem,hle,List.length_map,ha,Nat.zero_le,Nat.sub_zero,List.drop_zero,←List.map_take,show(0:Int)≤(at':Int) by omega];refine VCall.frz 6 (fp87 (w.take at') (by rw[List.length_take];omega)) rfl ?_;try simp only[go_sem,hle,List.length_map,ha,Nat.zero_le,Nat.sub_zero,List.drop_zero,←List.map_take,show(0:Int)≤(at':Int) by omega];refine hK _ _ _ _ (by kernel_rfl) ?_;clear hK K;refine W.seqk fun K hK=>?_
   have nx:∀(t2:Fr) (h2:Heap) (n2:Nat) (row:List Int) (ed:List Ed),fitG g row=true→AInv w w.length row ed→MInv w.length w.length ed→ed.length≤24→MD g 42 row ed h2 n2→t2 1=.ro (w.map eIn)→t2 12=.ptr 42 0 0→K t2 h2 n2:=by
    intro t2 h2 n2 row ed e1 e2 e3 e4 e5 e6 e7;refine hK _ _ _ ?_
    first|clear hK K|clear hK|skip
    refine W.seq ?_;refine W.rseq (k:=5) rfl fun K hK=>?_;simp only[go_sem,e6,e7,List.length_map]
    refine VCall.heap (fz101 hg (e5.next (by omega) (fun _ _=>rfl)) e1 (by omega) w.length) fun r h3 n3 ⟨e,r1,r2,r3,r4⟩=>?_
    subst r1;simp only[go_sem];refine hK _ _ _ ?_
    first|clear hK K|clear hK|skip
    by_cases he:e=0
    ·subst he;refine W.rseq (k:=2) rfl fun K hK=>?_;simp only[go_sem];refine hK _ _ _ ?_;clear hK K;refine W.condF (by simp only[go_sem]) ?_;refine W.skip ?_;simp only[go_sem]
     obtain⟨t,s1,s2,s3⟩:=r4 rfl;obtain⟨q1,rv,ev,q2,q3,q4⟩:=s1;have ht24:t.length≤24:=by rw[List.length_append] at s2;omega
     have htk:∀a∈row++t,0≤a∧a<g.terms:=by
      have:=der_tok (P:=fun a=>0≤a∧a<g.terms) (fun p hp s hs hn=>by have:=(hpr p hp).2.2 s hs;rw[hn] at this;exact this) s3 (fun s hs hn=>by
       rw[List.mem_singleton.1 hs] at hn;cases hn)
      intro a ha;obtain⟨i,hi⟩:=List.mem_iff_getElem?.1 ha;exact this i a (Nat.zero_le _) (List.getElem?_eq_some_iff.1 hi).1 hi
     have hapl:=ainv_end e2 t;have hz:∀j,¬42=n3+j:=fun j=>by omega
     refine W.dseq (k:=11) rfl fun K hK=>?_;simp only[go_sem,e7,q2,hz,show ∀j,(42<n3+j)=True from fun j=>eq_true (by omega)];refine hK _ _ _ _ (by kernel_rfl) ?_;clear hK K;refine W.ret ?_;simp only[go_sem]
     refine⟨ed++insE w.length t,row++t,0,⟨ev,rv,rfl,rf_up (show 4≤6 by omega) (q4.frz (d:=2) fun x _=>by simp[rfs,rf,eEd]), ?_⟩,fun _=> .inr ⟨fun q=>?_, ?_, ?_,hapl, ?_,s3⟩⟩
     ·rcases q3 with rfl|⟨_,b,rfl,_,_,q⟩
      ·simp[rf]
      ·exact rf_sla (d:=5) q (by simp) rfe_in
     ·rw[q,applF,List.drop_zero] at hapl;rw[←hapl] at s3;exact hD s3
     ·rw[List.length_append,insE,List.length_map];omega
     ·exact minv_end t (fun a ha=>by have:=htk a (List.mem_append_right _ ha);omega) e3
     ·exact fit_of e1 htk s2
    ·refine W.rseq (k:=2) rfl fun K hK=>?_;simp only[go_sem,he];refine hK _ _ _ ?_;clear hK K;refine W.condT (by simp only[go_sem,he]) ?_;refine W.rseq (k:=4) rfl fun K hK=>?_;simp only[go_sem];refine hK _ _ _ ?_;clear hK K;refine W.ret ?_;simp only[go_sem]
     exact bad h3 e he
   clear hK;have hAt:=ainv_at (w:=w) ha;have hrow0:(w.take at').length≤24:=by rw[List.length_take];omega
   refine W.rseq (k:=2) rfl fun K hK=>?_;simp only[go_sem];refine hK _ _ _ ?_;clear hK K
   refine W.block (W.while (fun mm t2 h2 n2=>∃(i:Nat) (row:List Int) (ed:List Ed),mm=w.length - i∧i≤w.length∧fitG g row=true∧AInv w i row ed∧MInv w.length i ed∧ed.length≤i∧MD g 42 row ed h2 n2∧(t2 1=.ro (w.map eIn)∧t2 12=.ptr 42 0 0)∧t2 13=.int .i64 i) (w.length - at')
    ⟨at',w.take at',[],rfl,ha,fit_of hf (fun a ha=>by have:=fit_tok hf a (List.mem_of_mem_take ha);omega) hrow0,hAt,minv_nil,Nat.zero_le _,⟨by omega,_,_,rfl,.inl rfl,.inl ⟨rfl,rfl⟩⟩,⟨rfl,rfl⟩,rfl⟩ fun mm t2 h2 n2 ⟨i,row,ed,i1,i2,i3,i4,i5,i6,i7,⟨a1,a12⟩,i8⟩=>?_)
   refine W.seq ?_;refine W.rseq (k:=4) rfl fun K hK=>?_;simp only[go_sem,a1,i8,List.length_map];refine hK _ _ _ ?_;clear hK K
   refine W.cond rfl (fun hc=>?_) fun hc=>?_
   ·refine W.skip ?_;simp only[go_sem];have hi:i<w.length:=by simp at hc;omega
    obtain⟨t,ht⟩:=get_some hi;have htk:(w.map eIn)[i]?=some (eIn t):=by rw[List.getElem?_map,ht];rfl
    have hrl:=fit_len i3;refine W.seq ?_;refine W.block ?_;refine W.region (k:=7) rfl ?_;simp only[go_sem,a1,a12,i8,htk];refine VCall.heap (fz100 hg (i7.next (by omega) (fun _ _=>rfl)) (by omega) (by omega) i t) fun r h3 n3 ⟨r1,r2,r3,row',ed',r4,r5⟩=>?_
    subst r1;simp only[go_sem];refine W.region (k:=3) rfl ?_;simp only[go_sem,i8]
    have hrf:fitG g row'=true:=by
     rcases r5 with ⟨_,_,q⟩|⟨_,_,_,_,_,q⟩|⟨_,q⟩
     ·exact q
     ·exact q
     ·rw[q];exact i3
    obtain⟨m1,m2⟩:=minv_tok hi hT1 i5 r5;refine⟨w.length - (i+1),by omega,i+1,row',ed',rfl,by omega,hrf,ainv_tok ht i4 r5,m1,by omega,r4.next (by omega) (fun _ _=>rfl),⟨a1,a12⟩, ?_⟩;rw[wrap64 (by omega) (by omega)];rfl
   ·refine W.exit ?_;simp only[go_sem];have hi:i=w.length:=by simp at hc;omega
    subst hi;exact nx _ _ _ row ed i3 i4 i5 (by omega) (i7.next (by omega) (fun _ _=>rfl)) a1 a12
 obtain⟨r,h',n',hb,ed,row,e,⟨ev,rv,rfl,h1,h2⟩,q⟩:=fin
 exact⟨ed,row,e,⟨_,h',n',hb,8,by
  have h3:rfs true 7 h' [ev,rv,.int .i64 e]=some [.ro (ed.map eEd),.ro (row.map eIn),.int .i64 e]:=rfs_cons h1 (rfs_cons h2 (rfs_cons (by simp[rf]) rfs_nil))
  rw[rf,h3]⟩,q⟩
end Go.Av
