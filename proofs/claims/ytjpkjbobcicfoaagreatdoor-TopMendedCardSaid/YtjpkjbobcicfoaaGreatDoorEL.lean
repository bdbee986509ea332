/-
  Regions in pieces: a call next to an operation that it does not touch. Conditions: none.
-/
import Derived.Tactics
import Derived.Tactics2
import Derived.Lib.SliceRun
import Derived.Test.YtjpkjbobcicfoaaGreatDoorZE
import Derived.Test.YtjpkjbobcicfoaaGreatDoorD0
set_option linter.unusedSimpArgs false
set_option linter.unusedVariables false
namespace Go.Av
open Go.Proofs
set_option maxRecDepth 100000
theorem Rel.later {w w':World} {S F:Nat→Prop} {m:Pm} {g:Heap} (hr:Rel w S F m g) (he:Ext (fun k=>k<w.heap.size) w w'):Rel w' S F m g:=
 ⟨fun b o p hb hm=>(hr.content b o p hb hm).mono (he.mono hr.inS) (fun _ h=>h) (fun _ _ h=>h) (he.same _ (hr.inm b p hm)),hr.disj,hr.apart,
  fun k hk=>Nat.lt_of_lt_of_le (hr.inS k hk) he.size,fun k hk=>Nat.lt_of_lt_of_le (hr.inF k hk) he.size,fun b p hm=>Nat.lt_of_lt_of_le (hr.inm b p hm) he.size,fun k a ha=>(hr.glob k a ha).mono (he.mono hr.inS) (fun _ h=>h) (fun _ _ h=>h)⟩
theorem empty_fn {f:FuncId} (hf:FnIn pg f) (hc:∀(w:World) (a:Option Addr) (cap:Nat),Calls pg f #[.slice a 0 cap] w fun e w'=>(∃a',e=.returned (.slice a' 0 0))∧Ext (fun k=>k<w.heap.size) w w') {h:Heap} {n:Nat}:FnS pg f [.ro []] h n .emp h n:=by
 refine⟨⟨Nat.le_refl _,fun _ _ h=>h,fun h=>h⟩,hf,fun w S F m vs hfr hr hL hm=>?_⟩;obtain⟨hl,hL⟩:=hL
 obtain⟨v,rfl⟩:∃v,vs=[v]:=by
  match vs,hl with
  |[v],_=>exact⟨v,rfl⟩
 have hv:VR w S m (.ro []) v:=hL 0 _ _ rfl rfl
 obtain⟨a,cap,rfl⟩:∃a cap,v=.slice a 0 cap:=by
  cases hv with
  |ron a cap=>exact⟨a,cap,rfl⟩
  |ro _ blk o sz cap=>exact⟨_,cap,rfl⟩
 refine(hc w a cap).mono fun e w' ⟨⟨a',he⟩,hx⟩=>⟨_,S,m,he,⟨hx.mono fun k hk=>hk.elim (hr.inS k) (hr.inF k),fun _ h=>h,fun _ h=> .inl h,fun _ _ h=>h,fun _ _=>rfl,hm⟩,.emp a',hr.later hx⟩
theorem clone_world87 {w:World} {a:Option Addr} {cap:Nat}:Calls pg 87 #[.slice a 0 cap] w fun e w'=>(∃a',e=.returned (.slice a' 0 0))∧Ext (fun k=>k<w.heap.size) w w':=by
 have q25:∀(w:World) (a:Option Addr) (n c n' c':Nat),(binOp .eql 25 (.slice a n c) (.slice none n' c')).run pg w=.ok (.bool a.isNone) w:=fun w a n c n' c'=>Lib.run_eql_slice_nil w _ _ a n c n' c' Tryz.underlying25
 obtain⟨i3,hi3,hz3⟩:∃i,pg.info? 3=some i∧i.size=1:=by
  have h:(pg.info? 3).map (·.size)=some 1:=by kernel_rfl
  exact Option.map_eq_some_iff.1 h
 have p25:∀(w:World) (a a2:Option Addr) (c2:Nat),(Builtin.append_ #[25,25] 25 #[.slice a 0 0,.slice a2 0 c2]).run pg w=.ok (.slice a 0 0) w:=fun w a a2 c2=>by
  obtain⟨news,hE,hS⟩:=elems_ok (P:=pg) (w:=w) (S:=fun _=>False) (m:=fun _=>none) (hc:=h0) (y:=.ro []) (tx:=25) (new:=[]) (sz:=1) (fun _=>Tryz.underlying25) (fun s h=>by cases h) (by decide) rfl (VR.ron a2 c2) (fun _ _ _ h=>h.elim)
  have hn:news=[]:=by
   cases news with
   |nil=>rfl
   |cons x l=>exact absurd hE.1 (by simp)
  subst hn;exact append_zero_ok Tryz.underlying25 hi3 (by rw[hz3];exact hS) a
 go_enter Tryz.func87,Tryz.ntmps87
 cases a with
 |none=>
  go_wp2
  go_ret
  exact⟨⟨none,rfl⟩,Ext.refl _ _⟩
 |some a=>
  go_wp2
  go_ret
  exact⟨⟨_,rfl⟩,ext_alloc w _⟩
theorem fe87 (h:Heap) (n:Nat):FH pg Tq 87 [.ro []] h n fun r h' n'=>r=.emp∧h'=h∧n'=n:=by
 refine⟨.emp,h,n,.semF (empty_fn ⟨_,Tryz.func87,rfl,by decide⟩ fun w a cap=>clone_world87),rfl,rfl,rfl⟩
theorem clone_world74 {w:World} {a:Option Addr} {cap:Nat}:Calls pg 74 #[.slice a 0 cap] w fun e w'=>(∃a',e=.returned (.slice a' 0 0))∧Ext (fun k=>k<w.heap.size) w w':=by
 have q70:∀(w:World) (a:Option Addr) (n c n' c':Nat),(binOp .eql 70 (.slice a n c) (.slice none n' c')).run pg w=.ok (.bool a.isNone) w:=fun w a n c n' c'=>Lib.run_eql_slice_nil w _ _ a n c n' c' Tryz.underlying70
 obtain⟨i3,hi3,hz3⟩:∃i,pg.info? 69=some i∧i.size=2:=by
  have h:(pg.info? 69).map (·.size)=some 2:=by kernel_rfl
  exact Option.map_eq_some_iff.1 h
 have p70:∀(w:World) (a a2:Option Addr) (c2:Nat),(Builtin.append_ #[70,70] 70 #[.slice a 0 0,.slice a2 0 c2]).run pg w=.ok (.slice a 0 0) w:=fun w a a2 c2=>by
  obtain⟨news,hE,hS⟩:=elems_ok (P:=pg) (w:=w) (S:=fun _=>False) (m:=fun _=>none) (hc:=h0) (y:=.ro []) (tx:=70) (new:=[]) (sz:=2) (fun _=>Tryz.underlying70) (fun s h=>by cases h) (by decide) rfl (VR.ron a2 c2) (fun _ _ _ h=>h.elim)
  have hn:news=[]:=by
   cases news with
   |nil=>rfl
   |cons x l=>exact absurd hE.1 (by simp)
  subst hn;exact append_zero_ok Tryz.underlying70 hi3 (by rw[hz3];exact hS) a
 go_enter Tryz.func74,Tryz.ntmps74
 cases a with
 |none=>
  go_wp2
  go_ret
  exact⟨⟨none,rfl⟩,Ext.refl _ _⟩
 |some a=>
  go_wp2
  go_ret
  exact⟨⟨_,rfl⟩,ext_alloc w _⟩
theorem fe74 (h:Heap) (n:Nat):FH pg Tq 74 [.ro []] h n fun r h' n'=>r=.emp∧h'=h∧n'=n:=by
 refine⟨.emp,h,n,.semF (empty_fn ⟨_,Tryz.func74,rfl,by decide⟩ fun w a cap=>clone_world74),rfl,rfl,rfl⟩
end Go.Av
namespace Go.Av
section
variable (P:Program) (Θ:Tab)
def VB (N:Nat) (ops:List Oper) (n0 i:Nat) (rest:List Oper) (t:Fr) (h:Heap) (x:Nat) (cs:List Cls) (K:List Cls→Fr→Heap→Nat→Prop):Prop:=
 ∃cs' t' h' x',Big P Θ (.ops N ⟨ops⟩ n0 (List.range' i rest.length) ⟨t,h,x⟩ cs' ⟨t',h',x'⟩)∧K (cs'.reverse++cs) t' h' x'
end
section
variable {P:Program} {Θ:Tab} {N:Nat} {t:Fr} {h:Heap} {n:Nat} {Q:AEx→Fr→Heap→Nat→Prop}
theorem VB.nil {ops:List Oper} {n0 i x:Nat} {cs:List Cls} {K:List Cls→Fr→Heap→Nat→Prop} (hk:K cs t h x):VB P Θ N ops n0 i [] t h x cs K:=⟨[],t,h,x,.nil,hk⟩
theorem VB.op {ops:List Oper} {n0 i x:Nat} {cs:List Cls} {K:List Cls→Fr→Heap→Nat→Prop} {o:Oper} {rest:List Oper} {c:Cls} {t1:Fr} {h1:Heap} {x1:Nat} (hb:OpS P N ⟨ops⟩ n0 i ⟨t,h,x⟩ c ⟨t1,h1,x1⟩)
  (hv:VB P Θ N ops n0 (i+1) rest t1 h1 x1 (c::cs) K):VB P Θ N ops n0 i (o::rest) t h x cs K:=by
 obtain⟨cs',t2,h2,x2,b2,k2⟩:=hv;refine⟨c::cs',t2,h2,x2, ?_,by simpa using k2⟩;rw[List.length_cons,List.range'_succ];exact .cons (.semO hb) b2
theorem VB.pre {ops:List Oper} {n0:Nat}:∀(rest post:List Oper) (i:Nat) (t:Fr) (h:Heap) (x:Nat) (cs:List Cls) (K:List Cls→Fr→Heap→Nat→Prop),ops.drop i=rest++post→
  VL P Θ N ops n0 i rest t h x cs (fun cs t h x=>VB P Θ N ops n0 (i+rest.length) post t h x cs K)→VB P Θ N ops n0 i (rest++post) t h x cs K
 |[],post,i,t,h,x,cs,K,_,hv=>hv
 |o::rest,post,i,t,h,x,cs,K,hd,hv=>by
  have ho:ops[i]?=some o:=by
   have:=congrArg (fun l=>l[0]?) hd;simpa using this
  have ho':(⟨ops⟩:Array Oper)[i]?=some o:=by simpa using ho
  have hd':ops.drop (i+1)=rest++post:=by rw[←List.drop_drop,hd];rfl
  have hgd:gd ⟨ops⟩ t o=gdL ops t o:=by
   unfold gd gdL
   cases o.guard with
   |none=>rfl
   |some gw=>obtain⟨g,w⟩:=gw;simp;rfl
  unfold VL at hv;obtain⟨hn,hv⟩:=hv;have hl:i+(o::rest).length=i+1+rest.length:=by simp;omega
  rw[hl] at hv
  have go:∀(c:Cls) (v:AV) (h':Heap) (x':Nat),Big P Θ (.op N ⟨ops⟩ n0 i ⟨t,h,x⟩ c ⟨put t o.dst v,h',x'⟩)→VL P Θ N ops n0 (i+1) rest (put t o.dst v) h' x' (c::cs) (fun cs t h x=>VB P Θ N ops n0 (i+1+rest.length) post t h x cs K)→
    VB P Θ N ops n0 i (o::rest++post) t h x cs K:=by
   intro c v h' x' hb hv;obtain⟨cs',t2,h2,x2,b2,k2⟩:=VB.pre rest post (i+1) _ h' x' _ K hd' hv;refine⟨c::cs',t2,h2,x2, ?_,by simpa using k2⟩;rw[List.cons_append,List.length_cons,List.range'_succ];exact .cons hb b2
  split at hv
  ·rename_i hg
   rw[←hgd] at hg
   have plain:(match aop Θ o.op t h n0 (n0+i) with
     |some (c,v,u)=>VL P Θ N ops n0 (i+1) rest (put t o.dst v) (upds h u) x (c::cs) (fun cs t h x=>VB P Θ N ops n0 (i+1+rest.length) post t h x cs K)
     |none=>False)→VB P Θ N ops n0 i (o::rest++post) t h x cs K:=by
    intro hp;split at hp
    ·rename_i c v u ha
     exact go c v _ x (.plain ho' hg hn ha) hp
    ·exact hp.elim
   unfold VOp at hv;split at hv
   ·rename_i cl hop
    split at hv
    ·rename_i f hc
     split at hv
     ·rename_i g caps ag hf ha
      rcases hv with ⟨res,h',x',hb,hk⟩|⟨live,d,d',as',res,res',h1,x1,hr,hb,hr',hk⟩|⟨live,d,d',as',b,len,sz,es,es',h1,x1,hr,hb,hh,hl,hr',hk⟩
      ·exact go _ _ _ _ (.callH ho' hg hn hop hc hf ha hb) hk
      ·exact go _ _ _ _ (.callP live ho' hg hn hop hc hf ha hr hb hr') hk
      ·exact go _ _ _ _ (.callT live ho' hg hn hop hc hf ha hr hb hh hl hr') hk
     ·exact hv.elim
    ·refine plain ?_;rw[hop];exact hv
   ·exact plain hv
  ·rename_i hg
   rw[←hgd] at hg;exact go _ _ _ _ (.skip ho' hg hn) hv
  ·exact hv.elim
theorem VB.run (j:Nat) {ops:List Oper} {n0 i x:Nat} {cs:List Cls} {K:List Cls→Fr→Heap→Nat→Prop} {rest:List Oper} (hd:ops.drop i=rest)
  (hv:VL P Θ N ops n0 i (rest.take j) t h x cs fun cs t h x=>VB P Θ N ops n0 (i+(rest.take j).length) (rest.drop j) t h x cs K):VB P Θ N ops n0 i rest t h x cs K:=by
 have:=VB.pre (P:=P) (Θ:=Θ) (N:=N) (rest.take j) (rest.drop j) i t h x cs K (by rw[hd,List.take_append_drop]) hv;rwa[List.take_append_drop] at this
theorem W.drawB {id:Nat} {ops:List Oper} {k:Nat} (hk:ops.length=k) (hv:VB P Θ N ops n 0 ops t h (n+k) [] fun cs t h n=>drawOK ⟨ops⟩ cs.reverse=true∧Q .normal t h n):W P Θ N (.region id ⟨ops⟩ true) t h n Q:=by
 subst hk;obtain⟨cs,t',h',x',hb,hd,hk⟩:=hv;refine⟨.normal,t',h',x',.region (cs:=cs) ?_ (fun _=>by simpa using hd),hk⟩;rw[List.range_eq_range'];exact hb
theorem W.dseqB {id:Nat} {ops:List Oper} {k:Nat} {b:Code} (hk:ops.length=k) (hv:∀K:List Cls→Fr→Heap→Nat→Prop,(∀cs t h n,drawOK ⟨ops⟩ cs.reverse=true→W P Θ N b t h n Q→K cs t h n)→VB P Θ N ops n 0 ops t h (n+k) [] K):W P Θ N (.seq (.region id ⟨ops⟩ true) b) t h n Q:=
 W.seq (W.drawB hk (hv _ fun _ _ _ _ h1 h2=>⟨h1,h2⟩))
end
end Go.Av
namespace Go.Av
theorem gd_none {ops:Array Oper} {t:Fr} {o:Oper} (h:o.guard=none):gd ops t o=some true:=by
 unfold gd;rw[h]
section
variable {P:Program} {Θ:Tab} {N:Nat} {t:Fr} {h:Heap} {ops:List Oper} {n0 i x:Nat} {cs:List Cls} {K:List Cls→Fr→Heap→Nat→Prop} {o:Oper} {rest:List Oper}
theorem VB.allocN (hT:TabOK P Θ) (ho:ops[i]?=some o) (hgu:o.guard=none) (hd:inN N o.dst=true) {ty:TypeId} {ti:TI} (hop:o.op=.alloc ty) (hti:Θ ty=some ti) (hsc:ti.zero.all scal=true)
  (hv:VB P Θ N ops n0 (i+1) rest (put t o.dst (.ptr (n0+i) 0 0)) (upd h (n0+i) (some (.cells [ti.zero]))) x (.N (n0+i)::cs) K):VB P Θ N ops n0 i (o::rest) t h x cs K:=
 VB.op (op_allocN hT (by simpa using ho) (gd_none hgu) hd hop hti hsc) hv
theorem VB.loadR (hT:TabOK P Θ) (ho:ops[i]?=some o) (hgu:o.guard=none) (hd:inN N o.dst=true) {ty:TypeId} {z:Operand} {ti:TI} {b j off:Nat} {cs':List AV} {v:AV} (hop:o.op=.load ty z)
  (hti:Θ ty=some ti) (hz:ev t z=some (.ptr b j off)) (hq:rdQ (.seg j off ti.size) (h b)=some cs') (hv:ofCells ti.agg cs'=some v)
  (hk:VB P Θ N ops n0 (i+1) rest (put t o.dst v) h x (.R b (.seg j off ti.size)::cs) K):VB P Θ N ops n0 i (o::rest) t h x cs K:=
 VB.op (op_loadR hT (by simpa using ho) (gd_none hgu) hd hop hti hz hq hv) hk
theorem VB.plainK (hT:TabOK P Θ) (l:List (Nat×Query)) (s:List Nat) (ho:ops[i]?=some o) (hgu:o.guard=none) (hd:inN N o.dst=true) {v:AV} {u:Upd} (hop:aop Θ o.op t h n0 (n0+i)=some (.W,v,u))
  (hq:(∀y∈l,rdQ y.2 (upds h u y.1)=rdQ y.2 (h y.1))∧∀b∈s,upds h u b=h b) (hv:VB P Θ N ops n0 (i+1) rest (put t o.dst v) (upds h u) x (.K l s::cs) K):VB P Θ N ops n0 i (o::rest) t h x cs K:=
 VB.op (op_K (op_plain hT (by simpa using ho) (gd_none hgu) hd hop) hq.1 hq.2) hv
theorem VB.callK (hT:TabOK P Θ) (hm:P.follows .mixedOrders=true) (l:List (Nat×Query)) (s:List Nat) (ho:ops[i]?=some o) (hgu:o.guard=none) (hd:inN N o.dst=true) {cl:Call} {f:Operand} {k:FuncId} {caps ags:List AV} (hop:o.op=.call cl) (hc:cl.callee=.value f) (hf:ev t f=some (.fn k caps)) (ha:evs t cl.args.toList=some ags)
  {R:AV→Heap→Nat→Prop} (hF:FH P Θ k (ags++caps) h x R) (hq:∀r h' x',R r h' x'→(∀y∈l,rdQ y.2 (h' y.1)=rdQ y.2 (h y.1))∧∀b∈s,h' b=h b)
  (hv:∀r h' x',R r h' x'→VB P Θ N ops n0 (i+1) rest (put t o.dst r) h' x' (.K l s::cs) K):VB P Θ N ops n0 i (o::rest) t h x cs K:=by
 obtain⟨r,h',x',hb,hR⟩:=hF;obtain⟨q1,q2⟩:=hq r h' x' hR;exact VB.op (op_K (op_callH (by simpa using ho) (gd_none hgu) hd hop hc hf ha (sound hT hm hb)) q1 q2) (hv r h' x' hR)
end
def Cls.re (f:Nat→Nat):Cls→Cls
 | .R b q=> .R (f b) q
 | .N s=> .N (f s)
 | .K l s=> .K (l.map fun x=>(f x.1,x.2)) (s.map f)
 |c=>c
theorem beq_inj {f:Nat→Nat} (hf:∀x y,f x=f y→x=y) (a b:Nat):(f a==f b)=(a==b):=by
 by_cases h:a=b
 ·subst h;simp
 ·have h2:¬f a=f b:=fun q=>h (hf _ _ q)
  rw[beq_false_of_ne h,beq_false_of_ne h2]
theorem any_re {f:Nat→Nat} (hf:∀x y,f x=f y→x=y) (b:Nat) (q:Query):∀l:List (Nat×Query),(l.map fun x=>(f x.1,x.2)).any (fun x=>x.1==f b && x.2.beq q)=l.any fun x=>x.1==b && x.2.beq q
 |[]=>rfl
 |x::l=>by
  rw[List.map_cons,List.any_cons,List.any_cons,any_re hf b q l];simp only[beq_inj hf]
theorem contains_re {f:Nat→Nat} (hf:∀x y,f x=f y→x=y) (s:Nat):∀l:List Nat,(l.map f).contains (f s)=l.contains s
 |[]=>rfl
 |x::l=>by
  rw[List.map_cons,List.contains_cons,List.contains_cons,contains_re hf s l,beq_inj hf]
theorem conflict_re {f:Nat→Nat} (hf:∀x y,f x=f y→x=y) (c d:Cls):conflict (c.re f) (d.re f)=conflict c d:=by
 cases c<;>cases d<;>first|rfl|(simp only[Cls.re,conflict];first|rw[any_re hf]|rw[contains_re hf])
theorem drawOK_re {f:Nat→Nat} (hf:∀x y,f x=f y→x=y) {ops:Array Oper} {cs:List Cls} (h:drawOK ops (cs.map (Cls.re f))=true):drawOK ops cs=true:=by
 have e:∀i,(cs.map (Cls.re f)).getD i .W=(cs.getD i .W).re f:=fun i=>by
  rw[List.getD_eq_getElem?_getD,List.getD_eq_getElem?_getD,List.getElem?_map];cases cs[i]? <;>rfl
 unfold drawOK at h ⊢;simp only[e,conflict_re hf] at h;exact h
def ren1 (s x:Nat):Nat:=if x=s then 0 else x+1
theorem ren1_inj (s:Nat):∀x y,ren1 s x=ren1 s y→x=y:=by
 intro x y h;unfold ren1 at h;by_cases h1:x=s<;>by_cases h2:y=s<;>simp[h1,h2] at h ⊢ <;>omega
theorem ren1_at (s:Nat):ren1 s s=0:=if_pos rfl
theorem follows:pg.follows .mixedOrders=true:=by decide
end Go.Av
