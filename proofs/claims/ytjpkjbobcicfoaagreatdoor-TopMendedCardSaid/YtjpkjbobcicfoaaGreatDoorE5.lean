/-
  Layer 18: what bags hold; each production of a nonterminal is let in. Conditions: none.
-/
import Derived.Test.YtjpkjbobcicfoaaGreatDoorES
set_option linter.unusedSimpArgs false
set_option linter.unusedVariables false
namespace Go.Av
open Go.Proofs
set_option maxRecDepth 100000
def entK (k:Nat) (l:List It):List (AV×AV):=(l.zipIdx k).map fun p=>(.agg (eIt p.1),.int .i64 (p.2+1:Nat))
theorem cell_it {x y:It}:cellEq [.int .i64,.int .i64,.int .i64] (.agg (eIt x)) (.agg (eIt y))=some (decide (x=y)):=by
 simp only[cellEq,cellsOf,eIt,eqs,eq1,and_self,if_true,Bool.and_true];have h1:((x.1:Int)==(y.1:Int))=decide (x.1=y.1):=by rw[int_beq];exact decide_eq_decide.2 Int.ofNat_inj
 have h2:((x.2.1:Int)==(y.2.1:Int))=decide (x.2.1=y.2.1):=by rw[int_beq];exact decide_eq_decide.2 Int.ofNat_inj
 have h3:((x.2.2:Int)==(y.2.2:Int))=decide (x.2.2=y.2.2):=by rw[int_beq];exact decide_eq_decide.2 Int.ofNat_inj
 rw[h1,h2,h3];refine(if_pos (by decide)).trans ?_
 congr 1
 rw[←Bool.decide_and,←Bool.decide_and];obtain⟨a,b,c⟩:=x;obtain⟨a',b',c'⟩:=y;exact decide_eq_decide.2 (by simp)
theorem key_it {x:It}:keyOK [.int .i64,.int .i64,.int .i64] (.agg (eIt x))=true:=by
 unfold keyOK;rw[cell_it];rfl
theorem find_in {x:It}:∀(l:List It) (k:Nat),x∈l→∃v:Nat,find [.int .i64,.int .i64,.int .i64] (.agg (eIt x)) (entK k l)=some (some (.int .i64 v))∧0<v
 |[],_,h=>by cases h
 |y::l,k,h=>by
  show ∃v:Nat,find _ _ ((.agg (eIt y),.int .i64 (k+1:Nat))::entK (k+1) l)=_∧_;rw[find,cell_it];by_cases e:x=y
  ·rw[decide_eq_true e];exact⟨k+1,rfl,by omega⟩
  ·rw[decide_eq_false e];exact find_in l (k+1) ((List.mem_cons.1 h).resolve_left e)
theorem find_out {x:It}:∀(l:List It) (k:Nat),x ∉ l→find [.int .i64,.int .i64,.int .i64] (.agg (eIt x)) (entK k l)=some none
 |[],_,_=>rfl
 |y::l,k,h=>by
  show find _ _ ((.agg (eIt y),.int .i64 (k+1:Nat))::entK (k+1) l)=_;rw[find,cell_it,decide_eq_false (fun e=>h (by simp[e]))];exact find_out l (k+1) (fun q=>h (List.mem_cons_of_mem _ q))
theorem entK_app {x:It} {l:List It}:entK 0 (l++[x])=entK 0 l++[(.agg (eIt x),.int .i64 (l.length+1:Nat))]:=by
 simp[entK,List.zipIdx_append]
def eBd (g:Gr) (w:List Int) (bG M:Nat):List AV:=[.int .i64 g.terms,.int .i64 g.nons,.int .i64 g.start,.ro (g.prods.map ePr),.ro (w.map eIn),.sl bG 0 M 2]
structure CM (bB bG:Nat) (g:Gr) (w:List Int) (co:Co) (h:Heap) (n:Nat) (L:List (List It)) (sv:Nat→AV) (mb:Nat→Nat):Prop where
 ltB:bB<n
 cB:co bB=some 0
 hB:h bB=some (.cells [eBd g w bG L.length])
 ltG:bG<n
 cG:co bG=some 1
 rows:∃es,h bG=some (.cells es)∧es.length=L.length∧∀i,i<L.length→es[i]?=some [sv i,.mp (mb i)]
 bag:∀i l,L[i]?=some l→SlC eIt 3 (3+2*i) co h n (sv i) l∧mb i<n∧co (mb i)=some (2+2*i)∧h (mb i)=some (.map (entK 0 l))
 fr:∀y,n≤y→co y=none
 ne:∀i,L[i]?=some []→sv i=.nils
theorem CM.next {bB bG:Nat} {g:Gr} {w:List Int} {co:Co} {h h':Heap} {n n':Nat} {L:List (List It)} {sv:Nat→AV} {mb:Nat→Nat} (m:CM bB bG g w co h n L sv mb) (hn:n≤n') (hh:∀x,x<n→h' x=h x):CM bB bG g w co h' n' L sv mb:=by
 obtain⟨m1,m2,m3,m4,m5,⟨es,m6,m7,m8⟩,m9,m10,m11⟩:=m;refine⟨by omega,m2,(hh _ m1).trans m3,by omega,m5,⟨es,(hh _ m4).trans m6,m7,m8⟩,fun i l hl=>?_,fun y hy=>m10 y (by omega),m11⟩;obtain⟨q1,q2,q3,q4⟩:=m9 i l hl;exact⟨q1.next ⟨hn,CoExt.rfl' _ _,fun x hx _=>hh x hx⟩,by omega,q3,(hh _ q2).trans q4⟩
def addL (L:List (List It)) (a:Nat) (x:It):List (List It):=
 match L[a]? with
 |some l=>if x∈l then L else L.set a (l++[x])
 |none=>L
set_option maxHeartbeats 8000000 in
theorem fz145 {bB bG:Nat} {g:Gr} {w:List Int} {co:Co} {h:Heap} {n:Nat} {L:List (List It)} {sv:Nat→AV} {mb:Nat→Nat} (m:CM bB bG g w co h n L sv mb) (a:Nat) (l:List It) (hl:L[a]?=some l) (hlen:l.length<2^30) (x:It):
  FH pg Tq 145 [.ptr bG a 0,.agg (eIt x)] h n fun r h' n'=>r=.tup []∧n≤n'∧∃co' sv',CM bB bG g w co' h' n' (addL L a x) sv' mb∧CoExt co co' n∧∀y,y<n→co y=none→h' y=h y:=by
 have m':=m;obtain⟨m1,m2,m3,m4,m5,⟨es,m6,m7,m8⟩,m9,m10,m11⟩:=m';have ha:a<L.length:=(List.getElem?_eq_some_iff.1 hl).1;have hr:=m8 a ha;obtain⟨q1,q2,q3,q4⟩:=m9 a l hl;have zG:∀j,¬bG=n+j:=fun j=>by omega
 have zG':¬bG=n:=by omega
 have zM:∀j,¬mb a=n+j:=fun j=>by omega
 have zM':¬mb a=n:=by omega
 have lG:∀j,(bG<n+j)=True:=fun j=>eq_true (by omega)
 have lM:∀j,(mb a<n+j)=True:=fun j=>eq_true (by omega)
 have hk:=key_it (x:=x);unfold eIt at hk;refine FH.of (N:=31) (rs:=#[]) Tryz.func145 rfl rfl (of_decide_eq_true rfl) rfl (by decide) ?_;refine W.rseq (k:=1) rfl fun K hK=>?_;simp only[go_sem];refine hK _ _ _ ?_;clear hK K
 by_cases hx:x∈l
 ·obtain⟨v,hv,hv0⟩:=find_in (x:=x) l 0 hx;unfold eIt at hv;refine W.dseq (k:=7) rfl fun K hK=>?_;simp only[go_sem,aLookup,m6,hr,zG,zG',zM,zM',lG,lM,q4,hk,hv,show((v:Int)=0)=False from eq_false (by omega)];refine hK _ _ _ _ (by kernel_rfl) ?_;clear hK K;refine W.condF (by simp only[go_sem]) ?_;refine W.skip ?_;simp only[go_sem]
  have hh:∀y,y<n→upd h n (some (.cells [eIt x])) y=h y:=fun y hy=>by simp only[go_sem,show ¬y=n by omega]
  refine⟨by omega,co,sv, ?_,CoExt.rfl' _ _,fun y hy _=>?_⟩
  ·have e:addL L a x=L:=by rw[addL,hl];simp only[hx,if_true]
   rw[e];exact m.next (by omega) hh
  ·exact hh y hy
 ·have hv:=find_out (x:=x) l 0 hx;unfold eIt at hv;refine W.dseq (k:=7) rfl fun K hK=>?_;simp only[go_sem,aLookup,m6,hr,zG,zG',zM,zM',lG,lM,q4,hk,hv];refine hK _ _ _ _ (by kernel_rfl) ?_;clear hK K;refine W.condT (by simp only[go_sem]) ?_
  have hMG:¬mb a=bG:=fun e=>by rw[e,m5] at q3;injection q3 with q3;omega
  refine W.seqk fun K hK=>?_
  have nx:∀(t':Fr) (h':Heap) (n' b':Nat),n+1≤b'→b'<n'→t' 0=.ptr bG a 0→t' 3=.ptr n 0 0→h' n=some (.cells [eIt x])→h' bG=some (.cells (es.set a [.sl b' 0 (l.length+1) 3,.mp (mb a)]))→h' b'=some (.cells ((l++[x]).map eIt))→(∀y,y<n→y≠bG→co y≠some (3+2*a)→h' y=h y)→K t' h' n':=by
   intro t' h' n' b' e1 e2 e3 e4 e5 e6 e7 e8;refine hK _ _ _ ?_;clear hK K;have f4:h' (mb a)=some (.map (entK 0 l)):=(e8 _ q2 hMG (by rw[q3];intro q;injection q;omega)).trans q4;have zG:∀j,¬bG=n'+j:=fun j=>by omega
   have zM:∀j,¬mb a=n'+j:=fun j=>by omega
   have lG:∀j,(bG<n'+j)=True:=fun j=>eq_true (by omega)
   have lM:∀j,(mb a<n'+j)=True:=fun j=>eq_true (by omega)
   have lM':(mb a<n')=True:=eq_true (by omega);have lG':(bG<n')=True:=eq_true (by omega);have ln':(n<n')=True:=eq_true (by omega);have hs:(es.set a [AV.sl b' 0 (l.length+1) 3,.mp (mb a)])[a]?=some [.sl b' 0 (l.length+1) 3,.mp (mb a)]:=by rw[List.getElem?_set_self (by omega)]
   refine W.draw (k:=11) rfl ?_;simp only[go_sem,aMapUpdate,e3,e4,e5,e6,hs,f4,hk,hv,zG,zM,lG,lM,lM',lG',ln'];refine⟨by kernel_rfl, ?_⟩;refine⟨by omega,setc co b' (3+2*a),fun i=>if i=a then .sl b' 0 (l.length+1) 3 else sv i, ?_,setc_ext (by omega),fun y hy hco=>?_⟩
   ·have e:addL L a x=L.set a (l++[x]):=by rw[addL,hl];simp only[hx,if_false]
    rw[e]
    have key:∀y,y<n→y≠bG→y≠mb a→co y≠some (3+2*a)→upd h' (mb a) (some (.map (entK 0 l++[(.agg (eIt x),.int .i64 (l.length+1:Nat))]))) y=h y:=fun y h1 h2 h3 h4=>by
     rw[upd_app,if_neg h3];exact e8 y h1 h2 h4
    have hne:∀y c,y<n→co y=some c→c≠1→c≠2+2*a→c≠3+2*a→upd h' (mb a) (some (.map (entK 0 l++[(.agg (eIt x),.int .i64 (l.length+1:Nat))]))) y=h y:=fun y c h1 h2 h3 h4 h5=>
     key y h1 (fun e=>by rw[e,m5] at h2;injection h2 with h2;omega) (fun e=>by rw[e,q3] at h2;injection h2 with h2;omega) (by rw[h2];simp;omega)
    have hcs:∀y c,y<n→co y=some c→setc co b' (3+2*a) y=some c:=fun y c h1 h2=>by rw[setc,if_neg (by omega)];exact h2
    refine⟨by omega,hcs _ _ m1 m2, ?_,by omega,hcs _ _ m4 m5,⟨es.set a [.sl b' 0 (l.length+1) 3,.mp (mb a)], ?_,by rw[List.length_set,List.length_set,m7],fun i hi=>?_⟩,fun i l' hl'=>?_,fun y hy=>by rw[setc,if_neg (by omega)];exact m10 y (by omega),fun i hi=>?_⟩
    ·rw[List.length_set];exact(hne _ 0 m1 m2 (by omega) (by omega) (by omega)).trans m3
    ·rw[upd_app,if_neg (Ne.symm hMG)];exact e6
    ·rw[List.length_set] at hi;by_cases ei:i=a
     ·subst ei;rw[hs,if_pos rfl]
     ·rw[List.getElem?_set_ne (Ne.symm ei),m8 i hi,if_neg ei]
    ·by_cases ei:i=a
     ·subst ei;rw[List.getElem?_set_self ha] at hl';cases hl';refine⟨?_,by omega,hcs _ _ q2 q3,by rw[upd_app,if_pos rfl,entK_app];rfl⟩;rw[if_pos rfl];exact .inr ⟨b',by rw[List.length_append];rfl,by omega,by rw[setc,if_pos rfl],by rw[upd_app,if_neg (by omega)];exact e7⟩
     ·rw[List.getElem?_set_ne (Ne.symm ei)] at hl';obtain⟨p1,p2,p3,p4⟩:=m9 i l' hl';rw[if_neg ei];exact⟨p1.next ⟨by omega,setc_ext (by omega),fun y hy hc=>hne y _ hy hc (by omega) (by omega) (by omega)⟩,by omega,hcs _ _ p2 p3,(hne _ _ p2 p3 (by omega) (by omega) (by omega)).trans p4⟩
    ·by_cases ei:i=a
     ·subst ei;rw[List.getElem?_set_self ha] at hi;simp at hi
     ·rw[List.getElem?_set_ne (Ne.symm ei)] at hi;rw[if_neg ei];exact m11 i hi
   ·rw[if_neg (fun e=>by rw[e,q3] at hco;cases hco)];exact e8 y hy (fun e=>by rw[e,m5] at hco;cases hco) (by rw[hco];simp)
  clear hK;refine W.draw (k:=11) rfl ?_;rcases q1 with ⟨w0,w1⟩|⟨b,w1,w2,w3,w4⟩
  ·simp only[go_sem,m6,hr,zG,zG',zM,zM',lG,lM,w1];refine⟨by kernel_rfl, ?_⟩;refine nx _ _ _ (n+15) (by omega) (by omega) rfl rfl ?_ ?_ ?_ ?_
   ·simp only[go_sem,Ne.symm zG',show ¬n=bG by omega]
   ·simp only[go_sem,w0]
   ·rw[w0];simp only[go_sem,List.map_cons,List.map_nil,show ¬n+15=bG by omega]
   ·intro y h1 h2 h3;simp only[go_sem,h2,show ¬y=n by omega,show ∀j,¬y=n+j from fun j=>by omega]
  ·have zb:∀j,¬b=n+j:=fun j=>by omega
   have zb':¬b=n:=by omega
   have hbG:¬bG=b:=fun e=>by rw[←e,m5] at w3;injection w3 with w3;omega
   have tk:(l.map eIt).take l.length=l.map eIt:=List.take_of_length_le (by simp);simp only[go_sem,m6,hr,zG,zG',zM,zM',lG,lM,w1,w4,zb,zb',hbG,tk,List.length_map,and_false,if_false,if_true,show(l.length+1)*24≤140737488355328 by omega];refine⟨by kernel_rfl, ?_⟩;refine nx _ _ _ (n+15) (by omega) (by omega) rfl rfl ?_ ?_ ?_ ?_
   ·simp only[go_sem,show ¬n=bG by omega,show ¬n=b by omega]
   ·simp only[go_sem]
   ·simp only[go_sem,List.map_append,List.map_cons,List.map_nil,show ¬n+15=bG by omega]
   ·intro y h1 h2 h3;simp only[go_sem,h2,show ¬y=n by omega,show ∀j,¬y=n+j from fun j=>by omega,show ¬y=b from fun e=>h3 (by rw[e];exact w3)]
end Go.Av
namespace Go.Av
open Go.Proofs
set_option maxRecDepth 100000
def bg (L:List (List It)) (i:Nat):List It:=L.getD i []
theorem bg_some {L:List (List It)} {i:Nat} (h:i<L.length):L[i]?=some (bg L i):=by simp[bg,h]
def GdL (g:Gr) (L:List (List It)):Prop:=∀i,(bg L i).Nodup∧∀x∈bg L i,ItOk g x∧x.2.2≤i
def Up (a:Nat) (L L':List (List It)):Prop:=L'.length=L.length∧(∀i,i≠a→bg L' i=bg L i)∧∃s,bg L' a=bg L a++s
theorem Up.refl (a:Nat) (L:List (List It)):Up a L L:=⟨rfl,fun _ _=>rfl,[],by simp⟩
theorem Up.trans {a:Nat} {L L' L2:List (List It)} (h:Up a L L') (k:Up a L' L2):Up a L L2:=by
 obtain⟨h1,h2,s,h3⟩:=h;obtain⟨k1,k2,u,k3⟩:=k;exact⟨k1.trans h1,fun i hi=>(k2 i hi).trans (h2 i hi),s++u,by rw[k3,h3,List.append_assoc]⟩
theorem Up.mem {a:Nat} {L L':List (List It)} (h:Up a L L') {i:Nat} {x:It} (hx:x∈bg L i):x∈bg L' i:=by
 obtain⟨_,h2,s,h3⟩:=h;by_cases e:i=a
 ·subst e;rw[h3];simp[hx]
 ·rw[h2 i e];exact hx
theorem addL_bg {L:List (List It)} {a:Nat} {x:It} (ha:a<L.length):Up a L (addL L a x)∧x∈bg (addL L a x) a∧(∀y,y∈bg (addL L a x) a→y=x∨y∈bg L a)∧(bg (addL L a x) a=bg L a∨(x ∉ bg L a∧bg (addL L a x) a=bg L a++[x])):=by
 have e:=bg_some ha;unfold addL;rw[e];simp only;by_cases hx:x∈bg L a
 ·rw[if_pos hx];exact⟨Up.refl _ _,hx,fun y hy=> .inr hy,.inl rfl⟩
 ·rw[if_neg hx];have e2:bg (L.set a (bg L a++[x])) a=bg L a++[x]:=by simp[bg,ha]
  refine⟨⟨by simp,fun i hi=>?_,[x],e2⟩,by rw[e2];simp,fun y hy=>?_,.inr ⟨hx,e2⟩⟩
  ·simp[bg,List.getElem?_set_ne (Ne.symm hi)]
  ·rw[e2] at hy;simp at hy;exact hy.symm
theorem GdL.add {g:Gr} {L:List (List It)} {a:Nat} {x:It} (h:GdL g L) (ha:a<L.length) (hx:ItOk g x) (hf:x.2.2≤a):GdL g (addL L a x):=by
 obtain⟨⟨_,u2,_⟩,_,k2,k3⟩:=addL_bg (x:=x) ha;intro i;by_cases e:i=a
 ·subst e;refine⟨?_,fun y hy=>?_⟩
  ·rcases k3 with k3|⟨k3,k4⟩
   ·rw[k3];exact(h i).1
   ·rw[k4];rw[List.nodup_append];exact⟨(h i).1,by simp,fun y hy z hz=>by simp at hz;subst hz;exact fun q=>k3 (q▸hy)⟩
  ·rcases k2 y hy with rfl|hy
   ·exact⟨hx,hf⟩
   ·exact(h i).2 y hy
 ·rw[u2 i e];exact h i
theorem nodup_ltE:∀(M:Nat) (l:List Nat),l.Nodup→(∀x∈l,x<M)→l.length≤M
 |0,l,_,h=>by
  cases l with
  |nil=>simp
  |cons x l=>exact absurd (h x (by simp)) (by omega)
 |M+1,l,hn,h=>by
  have h1:=nodup_ltE M (l.erase M) (hn.erase M) fun x hx=>by
   have h2:=(hn.mem_erase_iff).1 hx;have h3:=h x h2.2;omega
  by_cases hm:M∈l
  ·rw[List.length_erase_of_mem hm] at h1;omega
  ·rw[List.erase_of_not_mem hm] at h1;omega
structure SmG (g:Gr):Prop where
 small:g.Small
 right:right g=true
theorem ItOk.lt {g:Gr} (hg:SmG g) {x:It} (h:ItOk g x):x.1<60∧x.2.1≤8:=by
 obtain⟨p,hp,hd⟩:=h;obtain⟨_,_,_,h4,h5⟩:=right_in hg.right;have:=(List.getElem?_eq_some_iff.1 hp).1;have:=(h5 p (List.mem_of_getElem? hp)).2.1;omega
theorem GdL.len {g:Gr} (hg:SmG g) {L:List (List It)} (h:GdL g L) {i:Nat} (hi:i≤24):(bg L i).length≤15000:=by
 obtain⟨h1,h2⟩:=h i
 have hb:∀x∈bg L i,x.1<60∧x.2.1≤8∧x.2.2≤24:=fun x hx=>by
  have:=(h2 x hx).1.lt hg;have:=(h2 x hx).2;omega
 have:=nodup_ltE 15000 ((bg L i).map fun x=>(x.1*9+x.2.1)*25+x.2.2) (by
  unfold List.Nodup;rw[List.pairwise_map];refine List.Pairwise.imp_of_mem (R:=fun a b=>a≠b) (fun {x y} hx hy hne e=>hne ?_) h1;have:=hb x hx;have:=hb y hy;obtain⟨x1,x2,x3⟩:=x;obtain⟨y1,y2,y3⟩:=y;simp only[Prod.mk.injEq];simp only at*
  omega) (fun z hz=>by
  obtain⟨x,hx,rfl⟩:=List.mem_map.1 hz;have:=hb x hx
  omega)
 simpa using this
def Bfr (co:Co) (h:Heap) (n:Nat) (co':Co) (h':Heap) (n':Nat):Prop:=n≤n'∧CoExt co co' n∧∀y,y<n→co y=none→h' y=h y
theorem Bfr.loc {co:Co} {h h':Heap} {n n':Nat} (hn:n≤n') (hh:∀x,x<n→h' x=h x):Bfr co h n co h' n':=⟨hn,CoExt.rfl' _ _,fun y hy _=>hh y hy⟩
theorem Bfr.trans {co co' co2:Co} {h h' h2:Heap} {n n' n2:Nat} (a:Bfr co h n co' h' n') (b:Bfr co' h' n' co2 h2 n2):Bfr co h n co2 h2 n2:=
 ⟨Nat.le_trans a.1 b.1,a.2.1.trans b.2.1 a.1,fun y hy hc=>(b.2.2 y (Nat.lt_of_lt_of_le hy a.1) (by rw[a.2.1 y hy];exact hc)).trans (a.2.2 y hy hc)⟩
theorem fz145' {bB bG:Nat} {g:Gr} {w:List Int} {co:Co} {h:Heap} {n:Nat} {L:List (List It)} {sv:Nat→AV} {mb:Nat→Nat} (m:CM bB bG g w co h n L sv mb) (hg:SmG g) (hL:GdL g L) (hw:L.length≤25) (a:Nat) (ha:a<L.length) (x:It):
  FH pg Tq 145 [.ptr bG a 0,.agg (eIt x)] h n fun r h' n'=>r=.tup []∧∃co' sv',CM bB bG g w co' h' n' (addL L a x) sv' mb∧Bfr co h n co' h' n':=by
 obtain⟨r,h',n',hb,e1,e2,co',sv',e3,e4,e5⟩:=fz145 m a _ (bg_some ha) (by have:=hL.len hg (show a≤24 by omega);omega) x;exact⟨r,h',n',hb,e1,co',sv',e3,e2,e4,e5⟩
theorem fz144p (g:Gr) (x:Int) (hp:g.prods.length<2^40):PF pg Tq 144 [.agg (eGr g),.int .i64 x] (.ro ((prodsL g x).map eIn)):=by
 obtain⟨r,h',n',hb,ho⟩:=fz144 g x hp;exact⟨r,h',n',hb,4,fun fr=>ho.frz (d:=2) fun x _=>by simp[rfs,rf,eIn]⟩
set_option maxHeartbeats 8000000 in
theorem fz80 {bB bG:Nat} {g:Gr} {w:List Int} {co:Co} {h:Heap} {n:Nat} {L:List (List It)} {sv:Nat→AV} {mb:Nat→Nat} (m:CM bB bG g w co h n L sv mb) (hg:SmG g) (hL:GdL g L) (hw:L.length≤25) (non:Int) (a:Nat) (ha:a<L.length):
  FH pg Tq 80 [.ptr bB 0 0,.int .i64 non,.int .i64 a] h n fun r h' n'=>r=.tup []∧∃co' sv' L',CM bB bG g w co' h' n' L' sv' mb∧Bfr co h n co' h' n'∧Up a L L'∧GdL g L'∧∀(i:Nat) (p:Pr),g.prods[i]?=some p→p.left=non→(i,0,a)∈bg L' a:=by
 have hpl:g.prods.length<2^40:=by have:=(right_in hg.right).2.2.2.1;omega
 have zB:∀j,¬bB=n+j:=fun j=>by have:=m.ltB;omega
 have zB':¬bB=n:=by have:=m.ltB;omega
 have mB:=m.hB;refine FH.of (N:=30) (rs:=#[]) Tryz.func80 rfl rfl (of_decide_eq_true rfl) rfl (by decide) ?_;refine W.rseq (k:=8) rfl fun K hK=>?_;simp only[go_sem,mB,eBd];refine VCall.frz 6 (fz144p g non hpl) rfl ?_;try simp only[go_sem,mB,eBd];refine hK _ _ _ ?_;clear hK K
 obtain⟨C,hC⟩:∃C,C=prodsL g non:=⟨_,rfl⟩;have hCl:C.length<2^40:=by rw[hC];have:=prodsJ_len (g:=g) (x:=non) g.prods.length;unfold prodsL;omega
 have hCm:∀c∈C,∃i:Nat,c=i∧∃p,g.prods[i]?=some p∧p.left=non:=fun c hc=>by
  rw[hC] at hc;obtain⟨i,_,q2,q3⟩:=prodsJ_mem.1 hc;exact⟨i,q2,q3⟩
 have hCi:∀(i:Nat) (p:Pr),g.prods[i]?=some p→p.left=non→(i:Int)∈C:=fun i p q1 q2=>by
  rw[hC];exact prodsJ_mem.2 ⟨i,(List.getElem?_eq_some_iff.1 q1).1,rfl,p,q1,q2⟩
 rw[←hC]
 refine W.block (W.while (fun mm t h1 n1=>∃(k:Nat) (co1:Co) (sv1:Nat→AV) (L1:List (List It)),mm=C.length - k∧k≤C.length∧CM bB bG g w co1 h1 n1 L1 sv1 mb∧Bfr co h n co1 h1 n1∧Up a L L1∧GdL g L1∧(∀i:Nat,(i:Int)∈C.take k→(i,0,a)∈bg L1 a)∧(t 0=.ptr bB 0 0∧t 2=.int .i64 a∧t 13=.ro (C.map eIn)∧t 14=.int .i64 C.length)∧t 15=.int .i64 k) C.length
  ⟨0,co,sv,L,by simp,by simp,m.next (by omega) (fun x _=>rfl),Bfr.loc (by omega) (fun x _=>rfl),Up.refl _ _,hL,by simp,⟨rfl,rfl,rfl,by simp only[go_sem,List.length_map]⟩,rfl⟩ fun mm t h1 n1 ⟨k,co1,sv1,L1,i1,i2,i3,i4,i5,i6,i7,i8,i9⟩=>?_)
 have i8':=i8;obtain⟨a0,a2,a13,a14⟩:=i8';refine W.rseq (k:=1) rfl fun K hK=>?_;simp only[go_sem,a14,i9];refine hK _ _ _ ?_;clear hK K;refine W.seq ?_
 refine W.cond rfl (fun hc=>?_) fun hc=>?_
 ·refine W.skip ?_;simp only[go_sem];have hk:k<C.length:=by simp at hc;omega
  obtain⟨c,hck⟩:=get_some hk;obtain⟨i,rfl,p,hp,hpl2⟩:=hCm c (List.mem_of_getElem? hck);have zB:∀j,¬bB=n1+j:=fun j=>by have:=i3.ltB;omega
  have mB:=i3.hB;have hL1:L1.length=L.length:=i5.1;refine W.seq (W.block ?_);refine W.rseq (k:=3) rfl fun K hK=>?_;simp only[go_sem,a13,i9,hck,eIn];refine hK _ _ _ ?_;clear hK K;refine W.region (k:=10) rfl ?_;simp only[go_sem,a0,a2,mB,eBd,zB,show(a:Int)<(L1.length:Int) by omega]
  refine VCall.heap (fz145' (i3.next (n':=_) (by omega) (fun x _=>rfl)) hg i6 (by omega) a (by omega) (i,0,a)) fun r h2 n2 ⟨c0,co2,sv2,c1,c2⟩=>?_
  simp only[go_sem];refine W.region (k:=2) rfl ?_;simp only[go_sem,i9];obtain⟨u1,u2,u3,u4⟩:=addL_bg (L:=L1) (a:=a) (x:=(i,0,a)) (by omega);refine⟨C.length - (k+1),by omega,k+1,co2,sv2,_,rfl,by omega,c1.next (by omega) (fun x _=>rfl),i4.trans ((Bfr.loc (by omega) (fun x _=>rfl)).trans (c2.trans (Bfr.loc (by omega) (fun x _=>rfl)))),i5.trans u1,i6.add (by omega) ⟨p,hp,by simp⟩ (by simp),fun j hj=>?_,⟨a0,a2,a13,a14⟩, ?_⟩
  ·rw[List.take_add_one,hck] at hj;simp at hj;rcases hj with hj|hj
   ·exact u1.mem (i7 j hj)
   ·have e:j=i:=by omega
    rw[e];exact u2
  ·rw[wrap64 (by omega) (by omega)];rfl
 ·refine W.exit ?_;simp only[go_sem];have hk:C.length≤k:=by simp at hc;omega
  refine⟨co1,sv1,L1,i3.next (by omega) (fun x _=>rfl),i4.trans (Bfr.loc (by omega) (fun x _=>rfl)),i5,i6,fun i p q1 q2=>i7 i ?_⟩;rw[List.take_of_length_le hk];exact hCi i p q1 q2
end Go.Av
