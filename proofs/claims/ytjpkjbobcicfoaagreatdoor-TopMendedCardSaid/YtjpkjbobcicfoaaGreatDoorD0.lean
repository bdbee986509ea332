/-
  From what the arguments read as to values of the abstract machine; from a call on these to what a row says of it. Conditions: none.
-/
import Derived.ProofKit
import Derived.Carry
import Derived.SizedLaws
import Derived.Deep.Slices
import Derived.Test.YtjpkjbobcicfoaaGreatDoorAF
set_option linter.unusedSimpArgs false
set_option linter.unusedVariables false
namespace Go.Av
open Go.ChangeShapes Go.WideShapes Go.ChangeAt Go.RowKit Go.Deep
def Old (w:World):Nat→Prop:=fun k=>k<w.heap.size
def noM:Pm:=fun _=>none
def Rd (P:Program) (t:TypeId) {X:Type} (E:X→List AV) (ok:X→Prop):Prop:=
 ∀(H:Type) (enc:TypeId×Value→H) (w:World) (fuel:Nat) (cs:List Value) (x:DataW H×List MemPlace),
  DataW.trod enc P w 0 (fun _=>true) true fuel t cs=some x→(∀n∈x.1.weights P t,n≤reachBytes)→∃a:X,LR w (Old w) noM (E a) cs∧ok a
theorem Rd.conv {P:Program} {t:TypeId} {X Y:Type} {E:X→List AV} {E':Y→List AV} {ok:X→Prop} {ok':Y→Prop} (h:Rd P t E ok) (F:X→Y) (hE:∀x,E' (F x)=E x) (hok:∀x,ok x→ok' (F x)):Rd P t E' ok':=by
 intro H enc w fuel cs x hx hw;obtain⟨a,h1,h2⟩:=h H enc w fuel cs x hx hw;exact⟨F a,by rw[hE];exact h1,hok a h2⟩
theorem Rd.int {P:Program} {t:TypeId} {k:IntKind} (ht:P.underlying t=some (.int k)):Rd P t (fun n:Int=>[.int k n]) (fun n=>(Lit.int k n).wf=true):=by
 intro H enc w fuel cs x hx _;obtain⟨n,rfl,_,hn⟩:=DataW.trod_int ht hx;exact⟨n,LR.cons (.int k n) LR.nil,hn⟩
theorem Rd.bool {P:Program} {t:TypeId} (ht:P.underlying t=some .bool):Rd P t (fun b:Bool=>[.bool b]) (fun _=>True):=by
 intro H enc w fuel cs x hx _;obtain⟨b,rfl,_⟩:=DataW.trod_bool ht hx;exact⟨b,LR.cons (.bool b) LR.nil,trivial⟩
theorem list_of {X:Type} {p:Nat→X→Prop}:∀n,(∀i,i<n→∃x,p i x)→∃l:List X,l.length=n∧∀i x,l[i]?=some x→p i x
 |0,_=>⟨[],rfl,fun i x h=>by simp at h⟩
 |n+1,h=>by
  obtain⟨l,h1,h2⟩:=list_of n fun i hi=>h i (by omega)
  obtain⟨x,hx⟩:=h n (by omega);refine⟨l++[x],by simp[h1],fun i y hy=>?_⟩;rw[List.getElem?_append] at hy;split at hy
  ·exact h2 i y hy
  ·have hi:i - l.length=0:=by
    cases e:i - l.length with
    |zero=>rfl
    |succ k=>rw[e] at hy;simp at hy
   rw[hi] at hy;simp at hy;subst hy;have:i=n:=by omega
   subst this;exact hx
theorem weightsAll_mem {H:Type} {P:Program} {e:TypeId}:∀{l:List (DataW H)} {d:DataW H},d∈l→∀n∈d.weights P e,n∈DataW.weightsAll P e l
 |d'::l,d,h,n,hn=>by
  rw[DataW.weightsAll];rcases List.mem_cons.1 h with rfl|h
  ·exact List.mem_append_left _ hn
  ·exact List.mem_append_right _ (weightsAll_mem h n hn)
theorem Rd.slice {P:Program} {t e:TypeId} {X:Type} {E:X→List AV} {ok:X→Prop} {sz bt:Nat} (ht:P.underlying t=some (.slice e)) (ce:P.cellsOf e=sz) (hb:P.bytesOf e=bt) (hsz:0<sz)
  (hE:∀a,(E a).length=sz∧(E a).all scal=true) (h:Rd P e E ok):Rd P t (fun l:List X=>[.ro (l.map E)]) (fun l=>l.length*bt≤reachBytes∧∀a∈l,ok a):=by
 intro H enc w fuel cs x hx hw;rcases open_slice ht hx with ⟨rfl,rfl⟩|⟨a,len,cap,m,n,D,Pl,rfl,_,hl,hm,hmm,rfl,hel⟩
 ·exact⟨[],LR.cons (.ron none 0) LR.nil,by simp,fun a h=>by simp at h⟩
 simp only[if_true] at hmm;subst hmm;simp only[DataW.weights,ht,hb,List.length_map,List.length_range,List.mem_cons,List.mem_append,forall_eq_or_imp] at hw;obtain⟨hw1,hw2⟩:=hw
 obtain⟨l,hll,hl2⟩:=list_of (p:=fun i (x:X)=>∃cs',w.cells? 0 (a.add (i*P.cellsOf e)) (P.cellsOf e)=some cs'∧LR w (Old w) noM (E x) cs'∧ok x) len fun i hi=>by
  obtain⟨cs',h1,h2⟩:=hel i (by omega);obtain⟨x,h3,h4⟩:=h H enc w n cs' _ h2 fun k hk=>hw2 k (.inl (weightsAll_mem (List.mem_map.2 ⟨i,List.mem_range.2 hi,rfl⟩) k hk))
  exact⟨x,cs',h1,h3,h4⟩
 subst hll;refine⟨l, ?_, ?_,fun y hy=>?_⟩
 ·refine LR.cons ?_ LR.nil;obtain⟨blk,o,spot⟩:=a
  cases hnil:l with
  |nil=>exact .ron _ _
  |cons y0 l'=>
   have hsp:spot=none:=by
    obtain⟨cs',h1,h2,_⟩:=hl2 0 y0 (by rw[hnil];rfl);obtain⟨_,h4,h5⟩:=World.cells?_some h1;have h6:=h5 0 (by omega);have:cs'[0]?=some (cs'[0]'(by omega)):=by simp[show 0<cs'.length by omega]
    rw[this] at h6
    cases spot with
    |none=>rfl
    |some k=>
     unfold World.cell? at h6;simp only[Nat.zero_mul,Addr.add] at h6;split at h6<;>simp at h6
   subst hsp;rw[←hnil]
   have key:∀i j c,getc (l.map E) i j=some c→∃v,w.cell? ⟨blk,o+i*sz+j,none⟩=some v∧VR w (Old w) noM c v:=by
    intro i j c hc;unfold getc at hc;rw[List.getElem?_map] at hc
    cases hx:l[i]? with
    |none=>rw[hx] at hc;simp at hc
    |some y=>
     rw[hx] at hc;simp at hc;obtain⟨cs',h1,h2,_⟩:=hl2 i y hx;obtain⟨v,hv,hvr⟩:=h2.get hc;obtain⟨_,h4,h5⟩:=World.cells?_some h1
     have hj:j<P.cellsOf e:=by
      have:j<(E y).length:=by
       cases Nat.lt_or_ge j (E y).length with
       |inl h=>exact h
       |inr h=>rw[List.getElem?_eq_none h] at hc;cases hc
      rw[(hE y).1] at this;omega
     have h6:=h5 j hj;rw[hv,add_plain,add_plain,ce] at h6;exact⟨v,h6,hvr⟩
   have hS:Old w blk:=by
    have hc0:∃c,getc (l.map E) 0 0=some c:=by
     rw[hnil];have:(E y0)[0]?=some ((E y0)[0]'(by rw[(hE y0).1];exact hsz)):=by simp[(hE y0).1,hsz]
     exact⟨_,by simp[getc,this];rfl⟩
    obtain⟨c,hc⟩:=hc0;obtain⟨v,hv,_⟩:=key 0 0 c hc;unfold World.cell? at hv;unfold Old
    cases Nat.lt_or_ge blk w.heap.size with
    |inl h=>exact h
    |inr h=>rw[Array.getElem?_eq_none h] at hv;cases hv
   have hlen:l.length=(l.map E).length:=by simp
   rw[hlen];refine .ro (l.map E) blk o sz _ (fun i j=>(w.cell? ⟨blk,o+i*sz+j,none⟩).getD undef) hS ?_ (by simpa using hl) ?_ ?_
   ·intro i e' he';rw[List.getElem?_map] at he'
    cases hx:l[i]? with
    |none=>rw[hx] at he';cases he'
    |some y=>rw[hx] at he';cases he';exact hE y
   ·intro i j c hc;obtain⟨v,hv,_⟩:=key i j c hc;rw[hv];rfl
   ·intro i j c hc;obtain⟨v,hv,hr⟩:=key i j c hc;rw[hv];exact hr
 ·refine Nat.le_trans (Nat.mul_le_mul_right _ ?_) hw1;omega
 ·obtain⟨i,hi⟩:=List.mem_iff_getElem?.1 hy;exact(hl2 i y hi).choose_spec.2.2
theorem Rd.struct2 {P:Program} {t:TypeId} {f0 f1:Field} {X0 X1:Type} {E0:X0→List AV} {E1:X1→List AV} {ok0:X0→Prop} {ok1:X1→Prop} (ht:P.underlying t=some (.struct #[f0,f1]))
  (ce:P.cellsOf t=2) (o0:f0.offset=0) (o1:f1.offset=1) (c0:P.cellsOf f0.type=1) (c1:P.cellsOf f1.type=1) (h0:Rd P f0.type E0 ok0) (h1:Rd P f1.type E1 ok1):
  Rd P t (fun p:X0×X1=>E0 p.1++E1 p.2) (fun p=>ok0 p.1∧ok1 p.2):=by
 intro H enc w fuel cs x hx hw;obtain⟨y0,y1,n,rfl,hl,g0,g1⟩:=trod_struct2 ht hx;simp only[DataW.weights,ht,List.map_cons,List.map_nil,DataW.weightsEach,List.append_nil,List.mem_append] at hw;obtain⟨a0,k0,l0⟩:=h0 H enc w n _ _ g0 fun m hm=>hw m (.inl hm)
 obtain⟨a1,k1,l1⟩:=h1 H enc w n _ _ g1 fun m hm=>hw m (.inr hm)
 refine⟨(a0,a1), ?_,l0,l1⟩
 have e:cs=(cs.drop f0.offset).take (P.cellsOf f0.type)++(cs.drop f1.offset).take (P.cellsOf f1.type):=by
  rw[o0,o1,c0,c1,List.drop_zero,←List.take_add,List.take_of_length_le (by omega)]
 rw[e];exact k0.append k1
theorem Rd.struct4 {P:Program} {t:TypeId} {f0 f1 f2 f3:Field} {X0 X1 X2 X3:Type} {E0:X0→List AV} {E1:X1→List AV} {E2:X2→List AV} {E3:X3→List AV} {ok0:X0→Prop} {ok1:X1→Prop} {ok2:X2→Prop} {ok3:X3→Prop}
  (ht:P.underlying t=some (.struct #[f0,f1,f2,f3]))
  (ce:P.cellsOf t=4) (o0:f0.offset=0) (o1:f1.offset=1) (o2:f2.offset=2) (o3:f3.offset=3) (c0:P.cellsOf f0.type=1) (c1:P.cellsOf f1.type=1) (c2:P.cellsOf f2.type=1) (c3:P.cellsOf f3.type=1)
  (h0:Rd P f0.type E0 ok0) (h1:Rd P f1.type E1 ok1) (h2:Rd P f2.type E2 ok2) (h3:Rd P f3.type E3 ok3):
  Rd P t (fun p:X0×X1×X2×X3=>E0 p.1++E1 p.2.1++E2 p.2.2.1++E3 p.2.2.2) (fun p=>ok0 p.1∧ok1 p.2.1∧ok2 p.2.2.1∧ok3 p.2.2.2):=by
 intro H enc w fuel cs x hx hw;obtain⟨xs,n,_,rfl,hl,hlen,hf⟩:=DataW.trod_struct ht hx
 match xs,hlen with
 |[y0,y1,y2,y3],_=>
  have g0:=hf 0 f0 rfl;have g1:=hf 1 f1 rfl;have g2:=hf 2 f2 rfl;have g3:=hf 3 f3 rfl;simp only[DataW.weights,ht,List.map_cons,List.map_nil,DataW.weightsEach,List.append_nil,List.mem_append] at hw;obtain⟨a0,k0,l0⟩:=h0 H enc w n _ _ g0 fun m hm=>hw m (.inl hm)
  obtain⟨a1,k1,l1⟩:=h1 H enc w n _ _ g1 fun m hm=>hw m (.inr (.inl hm))
  obtain⟨a2,k2,l2⟩:=h2 H enc w n _ _ g2 fun m hm=>hw m (.inr (.inr (.inl hm)))
  obtain⟨a3,k3,l3⟩:=h3 H enc w n _ _ g3 fun m hm=>hw m (.inr (.inr (.inr hm)))
  refine⟨(a0,a1,a2,a3), ?_,l0,l1,l2,l3⟩
  have e:cs=(cs.drop f0.offset).take (P.cellsOf f0.type)++(cs.drop f1.offset).take (P.cellsOf f1.type)++(cs.drop f2.offset).take (P.cellsOf f2.type)++(cs.drop f3.offset).take (P.cellsOf f3.type):=by
   rw[o0,o1,o2,o3,c0,c1,c2,c3,List.drop_zero,←List.take_add,←List.take_add,←List.take_add,List.take_of_length_le (by omega)]
  rw[e];exact((k0.append k1).append k2).append k3
theorem call_of_FH {P:Program} {Θ:Tab} (hT:TabOK P Θ) (hm:P.follows .mixedOrders=true) {f:FuncId} {as:List AV} {b:Bool} {W:World} {vs:List Value} (hpf:FH P Θ f as h0 0 fun r _ _=>r=.bool b) (hL:LR W (Old W) noM as vs) (hgl:∀k a,gl gT k=some a→VR W (Old W) (fun _=>none) a (.pointer (some ⟨k,0,none⟩))):
  Calls P f vs.toArray W fun e W'=>e=.returned (.bool b)∧Below W.heap.size W W':=by
 obtain⟨r,h',n',hb,hr⟩:=hpf;have hs:FnS P f as h0 0 r h' n':=sound hT hm hb;have hrel:Rel W (Old W) (fun _=>False) noM h0:=⟨fun b o p h=>(by cases h),fun _ _ _ _ _ _ h=>(by cases h),fun _ _ _ h=>(by cases h),fun k hk=>hk,fun k hk=>hk.elim,fun b p h=>(by cases h),hgl⟩;refine(hs.2.2 W (Old W) (fun _=>False) noM vs (fun _ _=>rfl) hrel hL (fun _ _=>rfl)).mono fun e W' ⟨v,S',m',he,hst,hv,_⟩=>?_
 subst hr;cases hv;exact⟨he,hst.ext.os,hst.ext.tape,hst.ext.output,hst.ext.size,fun k hk=>hst.ext.same k (.inl hk)⟩
theorem trodAll_stays {H:Type} {enc:TypeId×Value→H} {P:Program} (hl:laidOutB P=true) {W W':World} {sp':Nat→Bool}:∀{ts:List TypeId} {vs:List Value} {ds:List (DataW H)} {ps:List MemPlace},(∀t∈ts,P.readableRec t=true∧t<P.types.size)→
  DataW.TrodAll enc P W 0 (fun _=>true) true ts vs ds ps→(∀p∈ps,W.sameAt W' p)→(∀p∈ps,sp' p.block=true)→DataW.TrodAll enc P W' 0 sp' true ts vs ds ps
 |[],vs,ds,ps,_,h,_,_=>by
  obtain⟨rfl,rfl,rfl⟩:=trodAll_nil h;exact rfl
 |t::ts,vs,ds,ps,hr,h,h1,h2=>by
  obtain⟨v,vs',d,ds',p,q,rfl,rfl,rfl,ht,hrest⟩:=trodAll_cons h
  exact⟨p,q,WideElems.Trod_stays hl (hr t (by simp)).1 (hr t (by simp)).2 ht (fun x hx=>h1 x (List.mem_append_left _ hx)) (fun x hx=>h2 x (List.mem_append_left _ hx)),
   trodAll_stays hl (fun t ht=>hr t (by simp[ht])) hrest (fun x hx=>h1 x (List.mem_append_right _ hx)) (fun x hx=>h2 x (List.mem_append_right _ hx)),rfl⟩
theorem post_of_below {H:Type} {enc:TypeId×Value→H} {P:Program} (hl:laidOutB P=true) {f:Func} {s:ChangeSpec} {apart fresh handsOn again:Bool} {W W':World} {args:Array Value} {b:Bool} {tr:TypeId} {ds gs:List (DataW H)} {before:List MemPlace}
  (hW:DataW.Whole enc P f.params.toList s.vars apart W args.toList ds gs before) (hb:Below W.heap.size W W') (hvars:s.vars=[]) (hrt:f.resultTypes=#[tr]) (htr:P.underlying tr=some .bool)
  (hpar:∀t∈f.params.toList,P.readableRec t=true∧t<P.types.size) (hfn:s.fn H (ds++gs)={ results:=[.lit (.bool b)],args:=ds }):s.post enc P f apart fresh handsOn again W args (.bool b) W':=by
 have hlt:=fun p hp=>hW.lt (p:=p) hp
 have hW0:=hW;obtain⟨p,q,hA,hV,rfl,hz,hn⟩:=hW;rw[hvars] at hV;obtain⟨rfl,rfl⟩:=trodVars_none hV
 have hres:∀(b0:Nat) (sp:Nat→Bool) (hd:Bool),DataW.TrodAll enc P W' b0 sp hd f.resultTypes.toList ((Value.bool b).resultList f.resultTypes.size) [.lit (.bool b)] []:=by
  intro b0 sp hd;rw[hrt];exact trodAll_mk1 (shut_bool htr b)
 have hargs:∀sp:Nat→Bool,(∀x∈p,sp x.block=true)→DataW.TrodAll enc P W' 0 sp true f.params.toList args.toList ds p:=fun sp hsp=>
  trodAll_stays hl hpar hA (fun x hx=>hb.same (hlt x (by simpa using hx))) hsp
 have hvr:∀sp:Nat→Bool,DataW.TrodVars enc P W' sp s.vars [] []:=fun sp=>by rw[hvars];rfl
 refine⟨ds,[],p++[],[],p,[],hW0, ?_, ?_, ?_,World.keptBut_mono (fun x hx=>⟨hx,.inr (.inl (by simpa using hx))⟩) (hb.frame _),fun _=>?_⟩
 ·rw[hfn];exact hres _ _ _
 ·rw[hfn];exact hargs _ fun x hx=>by simpa using hlt x (by simpa using hx)
 ·rw[hfn];exact hvr _
 ·refine⟨ok_one hrt rfl (okWide_bool_mk htr b),[.lit (.bool b)]++ds,[],([]++p)++[],⟨[]++p,[],trodAll_append (hargs _ fun _ _=>rfl) (hres _ _ _),hvr _,rfl, ?_, ?_⟩,fun x hx _=>by simpa using hx⟩
  ·intro blk off hp;rw[hb.frozen (p:=⟨blk,off,none⟩) (hlt (.cell blk off) (by simpa using hp))];exact hz blk off (by simpa using hp)
  ·intro ha;simpa using hn ha
end Go.Av
