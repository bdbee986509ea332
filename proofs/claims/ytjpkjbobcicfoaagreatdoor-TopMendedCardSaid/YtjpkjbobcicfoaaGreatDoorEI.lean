/-
  Layer 22: rows that are known. Conditions: none.
-/
import Derived.Test.YtjpkjbobcicfoaaGreatDoorE5
import Derived.Test.YtjpkjbobcicfoaaGreatDoorEL
set_option linter.unusedSimpArgs false
set_option linter.unusedVariables false
namespace Go.Av
open Go.Proofs
set_option maxRecDepth 100000
theorem mapM_sub {α β:Type} {f g:α→Option β} (h:∀x y,f x=some y→g x=some y):∀(l:List α) (r:List β),l.mapM f=some r→l.mapM g=some r
 |[],r,e=>e
 |x::l,r,e=>by
  rw[List.mapM_cons] at e ⊢
  cases hx:f x with
  |none=>rw[hx] at e;cases e
  |some y=>
   rw[hx] at e;rw[h _ _ hx]
   cases hl:l.mapM f with
   |none=>rw[hl] at e;cases e
   |some r'=>
    rw[hl] at e;rw[mapM_sub h l r' hl];exact e
theorem rf_sub_all {h h':Heap} (hh:∀y o,h y=some o→h' y=some o) (fr:Bool):∀d,(∀a a',rf fr d h a=some a'→rf fr d h' a=some a')∧(∀l l',rfs fr d h l=some l'→rfs fr d h' l=some l')∧(∀l l',rfe fr d h l=some l'→rfe fr d h' l=some l')
 |0=>⟨fun a a' e=>by simp[rf] at e,fun l l' e=>by simp[rfs] at e,fun l l' e=>by simp[rfe] at e⟩
 |d+1=>by
  obtain⟨i1,i2,i3⟩:=rf_sub_all hh fr d;refine⟨fun a a' e=>?_,fun l l' e=>?_,fun l l' e=>?_⟩
  ·cases a
   case ptr b i off=>
    rw[rf] at e ⊢
    cases hb:h b with
    |none=>rw[hb] at e;cases e
    |some o=>
     rw[hb] at e;rw[hh _ _ hb]
     cases o with
     |cells es=>
      simp only at e ⊢
      cases hi:es[i]? with
      |none=>rw[hi] at e;cases e
      |some c=>
       rw[hi] at e;simp only at e ⊢
       cases hr:rfs fr d h c with
       |none=>rw[hr] at e;cases e
       |some c'=>rw[hr] at e;rw[i2 _ _ hr];exact e
     |_=>cases e
   case sl b off len sz=>
    rw[rf] at e ⊢
    cases hb:h b with
    |none=>rw[hb] at e;cases e
    |some o=>
     rw[hb] at e;rw[hh _ _ hb]
     cases o with
     |cells es=>
      simp only at e ⊢;by_cases hc:off+len≤es.length
      ·rw[if_pos hc] at e ⊢
       cases hr:rfe fr d h ((es.drop off).take len) with
       |none=>rw[hr] at e;cases e
       |some c'=>rw[hr] at e;rw[i3 _ _ hr];exact e
      ·rw[if_neg hc] at e;cases e
     |_=>cases e
   case fn f cs=>
    rw[rf] at e ⊢
    cases hr:rfs fr d h cs with
    |none=>rw[hr] at e;cases e
    |some c'=>rw[hr] at e;rw[i2 _ _ hr];exact e
   case bm f cs=>
    rw[rf] at e ⊢
    cases hr:rfs fr d h cs with
    |none=>rw[hr] at e;cases e
    |some c'=>rw[hr] at e;rw[i2 _ _ hr];exact e
   case agg cs=>
    rw[rf] at e ⊢
    cases hr:rfs fr d h cs with
    |none=>rw[hr] at e;cases e
    |some c'=>rw[hr] at e;rw[i2 _ _ hr];exact e
   case tup cs=>
    rw[rf] at e ⊢
    cases hr:rfs fr d h cs with
    |none=>rw[hr] at e;cases e
    |some c'=>rw[hr] at e;rw[i2 _ _ hr];exact e
   all_goals (rw[rf] at e ⊢;exact e)
  ·rw[rfs] at e ⊢;exact mapM_sub i1 _ _ e
  ·rw[rfe] at e ⊢;exact mapM_sub i2 _ _ e
theorem rf_up_all {h:Heap} (fr:Bool):∀d,(∀a a',rf fr d h a=some a'→rf fr (d+1) h a=some a')∧(∀l l',rfs fr d h l=some l'→rfs fr (d+1) h l=some l')∧(∀l l',rfe fr d h l=some l'→rfe fr (d+1) h l=some l')
 |0=>⟨fun a a' e=>by simp[rf] at e,fun l l' e=>by simp[rfs] at e,fun l l' e=>by simp[rfe] at e⟩
 |d+1=>by
  obtain⟨i1,i2,i3⟩:=rf_up_all (h:=h) fr d;refine⟨fun a a' e=>?_,fun l l' e=>?_,fun l l' e=>?_⟩
  ·cases a
   case ptr b i off=>
    rw[rf] at e ⊢
    cases hb:h b with
    |none=>rw[hb] at e;cases e
    |some o=>
     rw[hb] at e
     cases o with
     |cells es=>
      simp only at e ⊢
      cases hi:es[i]? with
      |none=>rw[hi] at e;cases e
      |some c=>
       rw[hi] at e;simp only at e ⊢
       cases hr:rfs fr d h c with
       |none=>rw[hr] at e;cases e
       |some c'=>rw[hr] at e;rw[i2 _ _ hr];exact e
     |_=>cases e
   case sl b off len sz=>
    rw[rf] at e ⊢
    cases hb:h b with
    |none=>rw[hb] at e;cases e
    |some o=>
     rw[hb] at e
     cases o with
     |cells es=>
      simp only at e ⊢;by_cases hc:off+len≤es.length
      ·rw[if_pos hc] at e ⊢
       cases hr:rfe fr d h ((es.drop off).take len) with
       |none=>rw[hr] at e;cases e
       |some c'=>rw[hr] at e;rw[i3 _ _ hr];exact e
      ·rw[if_neg hc] at e;cases e
     |_=>cases e
   case fn f cs=>
    rw[rf] at e ⊢
    cases hr:rfs fr d h cs with
    |none=>rw[hr] at e;cases e
    |some c'=>rw[hr] at e;rw[i2 _ _ hr];exact e
   case bm f cs=>
    rw[rf] at e ⊢
    cases hr:rfs fr d h cs with
    |none=>rw[hr] at e;cases e
    |some c'=>rw[hr] at e;rw[i2 _ _ hr];exact e
   case agg cs=>
    rw[rf] at e ⊢
    cases hr:rfs fr d h cs with
    |none=>rw[hr] at e;cases e
    |some c'=>rw[hr] at e;rw[i2 _ _ hr];exact e
   case tup cs=>
    rw[rf] at e ⊢
    cases hr:rfs fr d h cs with
    |none=>rw[hr] at e;cases e
    |some c'=>rw[hr] at e;rw[i2 _ _ hr];exact e
   all_goals (rw[rf] at e ⊢;exact e)
  ·rw[rfs] at e ⊢;exact mapM_sub i1 _ _ e
  ·rw[rfe] at e ⊢;exact mapM_sub i2 _ _ e
theorem rf_up {h:Heap} {fr:Bool} {d d':Nat} (hd:d≤d') {a a':AV} (e:rf fr d h a=some a'):rf fr d' h a=some a':=by
 induction hd with
 |refl=>exact e
 |step _ ih=>exact(rf_up_all fr _).1 _ _ ih
theorem rf_sub {h h':Heap} (hh:∀y o,h y=some o→h' y=some o) {fr:Bool} {d:Nat} {a a':AV} (e:rf fr d h a=some a'):rf fr d h' a=some a':=(rf_sub_all hh fr d).1 _ _ e
def eKey (u:List Int):List AV:=.int .i64 u.length::(List.range 24).map fun i=> .int .u8 (u.getD i 0)
def KeyW (u:List Int):Prop:=u.length≤24∧∀t∈u,0≤t∧t<256
theorem eqs_u8 (f f':Nat→Int):∀l:List Nat,eqs (l.map fun _=> .int .u8) (l.map fun i=> .int .u8 (f i)) (l.map fun i=> .int .u8 (f' i))=some (decide (∀i∈l,f i=f' i))
 |[]=>by simp[eqs]
 |i::l=>by
  rw[List.map_cons,List.map_cons,List.map_cons,eqs,eqs_u8 f f' l];simp only[eq1,and_self,if_true];rw[int_beq,←Bool.decide_and]
  congr 1
  exact decide_eq_decide.2 (by simp)
theorem key_ks:([.int .i64,.int .u8,.int .u8,.int .u8,.int .u8,.int .u8,.int .u8,.int .u8,.int .u8,.int .u8,.int .u8,.int .u8,.int .u8,.int .u8,.int .u8,.int .u8,.int .u8,.int .u8,.int .u8,.int .u8,.int .u8,.int .u8,.int .u8,.int .u8,.int .u8]:List EK)=.int .i64::(List.range 24).map fun _=> .int .u8:=rfl
theorem cell_key {u v:List Int} (hu:KeyW u) (hv:KeyW v):cellEq [.int .i64,.int .u8,.int .u8,.int .u8,.int .u8,.int .u8,.int .u8,.int .u8,.int .u8,.int .u8,.int .u8,.int .u8,.int .u8,.int .u8,.int .u8,.int .u8,.int .u8,.int .u8,.int .u8,.int .u8,.int .u8,.int .u8,.int .u8,.int .u8,.int .u8] (.agg (eKey u)) (.agg (eKey v))=some (decide (u=v)):=by
 rw[key_ks];show(if 2≤(EK.int .i64::(List.range 24).map fun _=>EK.int .u8).length then eqs _ (eKey u) (eKey v) else none)=_;rw[if_pos (by decide)];unfold eKey;rw[eqs,eqs_u8];simp only[eq1,and_self,if_true];rw[int_beq,←Bool.decide_and]
 congr 1
 refine decide_eq_decide.2 ⟨fun⟨h1,h2⟩=>?_,fun e=>by rw[e];simp⟩;have hl:u.length=v.length:=by omega
 refine List.ext_getElem? fun i=>?_
 by_cases hi:i<u.length
 ·have:=h2 i (by have:=hu.1;simp;omega);rw[List.getD_eq_getElem?_getD,List.getD_eq_getElem?_getD,List.getElem?_eq_getElem hi,List.getElem?_eq_getElem (show i<v.length by omega)] at this;rw[List.getElem?_eq_getElem hi,List.getElem?_eq_getElem (show i<v.length by omega)];simpa using this
 ·rw[List.getElem?_eq_none (by omega),List.getElem?_eq_none (by omega)]
def eKn (us:List (List Int×(Nat→Nat))):List (AV×AV):=us.map fun p=>(.agg (eKey p.1),.agg (eRw p.2))
def KnG (g:Gr) (us:List (List Int×(Nat→Nat))):Prop:=∀p∈us,Rc g p.1 p.2∧KeyW p.1
theorem find_kw {g:Gr} {u:List Int} (hu:KeyW u):∀(us:List (List Int×(Nat→Nat))),KnG g us→
  (∃f,Rc g u f∧find [.int .i64,.int .u8,.int .u8,.int .u8,.int .u8,.int .u8,.int .u8,.int .u8,.int .u8,.int .u8,.int .u8,.int .u8,.int .u8,.int .u8,.int .u8,.int .u8,.int .u8,.int .u8,.int .u8,.int .u8,.int .u8,.int .u8,.int .u8,.int .u8,.int .u8] (.agg (eKey u)) (eKn us)=some (some (.agg (eRw f))))∨find [.int .i64,.int .u8,.int .u8,.int .u8,.int .u8,.int .u8,.int .u8,.int .u8,.int .u8,.int .u8,.int .u8,.int .u8,.int .u8,.int .u8,.int .u8,.int .u8,.int .u8,.int .u8,.int .u8,.int .u8,.int .u8,.int .u8,.int .u8,.int .u8,.int .u8] (.agg (eKey u)) (eKn us)=some none
 |[],_=> .inr rfl
 |p::us,h=>by
  have hp:=h p (by simp);show(∃f,Rc g u f∧find _ _ ((.agg (eKey p.1),.agg (eRw p.2))::eKn us)=_)∨find _ _ ((.agg (eKey p.1),.agg (eRw p.2))::eKn us)=_;rw[find,cell_key hu hp.2];by_cases e:u=p.1
  ·rw[decide_eq_true e];exact .inl ⟨p.2,e▸hp.1,rfl⟩
  ·rw[decide_eq_false e];exact find_kw hu us fun q hq=>h q (List.mem_cons_of_mem _ hq)
theorem key_ok {u:List Int} (hu:KeyW u):keyOK [.int .i64,.int .u8,.int .u8,.int .u8,.int .u8,.int .u8,.int .u8,.int .u8,.int .u8,.int .u8,.int .u8,.int .u8,.int .u8,.int .u8,.int .u8,.int .u8,.int .u8,.int .u8,.int .u8,.int .u8,.int .u8,.int .u8,.int .u8,.int .u8,.int .u8] (.agg (eKey u))=true:=by
 unfold keyOK;rw[cell_key hu hu];rfl
structure EM (g:Gr) (bE bM:Nat) (gp:AV) (h:Heap) (n:Nat):Prop where
 lE:bE<n
 lM:bM<n
 ne:bE≠bM
 eng:∃(c:Int) (hX:Heap),h bE=some (.cells [[.int .i64 g.terms,.int .i64 g.nons,.int .i64 g.start,gp,.mp bM,.int .i64 c]])∧(∀y o,hX y=some o→y≠bE∧y≠bM∧y<n∧h y=some o)∧∀fr,rf fr 8 hX gp=some (.ro (g.prods.map ePr))
 known:∃us,h bM=some (.map (eKn us))∧KnG g us
theorem EM.next {g:Gr} {bE bM:Nat} {gp:AV} {h h':Heap} {n n':Nat} (m:EM g bE bM gp h n) (hn:n≤n') (hh:∀y,y<n→h' y=h y):EM g bE bM gp h' n':=by
 obtain⟨m1,m2,m3,⟨c,hX,m4,m5,m6⟩,us,m7,m8⟩:=m;refine⟨by omega,by omega,m3,⟨c,hX,(hh _ m1).trans m4,fun y o q=>?_,m6⟩,us,(hh _ m2).trans m7,m8⟩;obtain⟨a1,a2,a3,a4⟩:=m5 y o q;exact⟨a1,a2,by omega,(hh _ a3).trans a4⟩
end Go.Av
namespace Go.Av
open Go.Proofs
set_option maxRecDepth 100000
def kC (s:Nat) (f:Nat→Int):List AV:=.int .i64 s::(List.range 24).map fun i=> .int .u8 (f i)
theorem kC_len {s:Nat} {f:Nat→Int}:(kC s f).length=25:=by simp[kC]
theorem kC_scal {s:Nat} {f:Nat→Int}:(kC s f).all scal=true:=by simp[kC,scal]
theorem kC_tk {s:Nat} {f:Nat→Int}:(kC s f).take 25=kC s f:=List.take_of_length_le (by rw[kC_len];exact Nat.le_refl _)
theorem kC_d {s:Nat} {f:Nat→Int}:(kC s f).drop 25=[]:=List.drop_eq_nil_of_le (by rw[kC_len];exact Nat.le_refl _)
theorem kC_over {s:Nat} {f:Nat→Int} {t:Nat} {v:Int} (h:t<24):(kC s f).take (1+t)++(.int .u8 v::(kC s f).drop (1+(t+1)))=kC s (fun x=>if x=t then v else f x):=by
 rw[show 1+(t+1)=1+t+1 by omega];refine List.ext_getElem? fun i=>?_
 rw[List.getElem?_append];have hl:((kC s f).take (1+t)).length=1+t:=by rw[List.length_take,kC_len];omega
 rw[hl];by_cases h1:i<1+t
 ·rw[if_pos h1,List.getElem?_take_of_lt h1]
  cases i with
  |zero=>rfl
  |succ i=>
   simp only[kC,List.getElem?_cons_succ,List.getElem?_map];rw[List.getElem?_range (show i<24 by omega)];simp only[Option.map_some,if_neg (show ¬i=t by omega)]
 ·rw[if_neg h1];by_cases h2:i=1+t
  ·subst h2;rw[Nat.sub_self];simp[kC,h,Nat.add_comm 1 t]
  ·obtain⟨k,hk⟩:∃k,i=1+t+1+k:=⟨i - (1+t+1),by omega⟩;subst hk;rw[show 1+t+1+k - (1+t)=k+1 by omega,List.getElem?_cons_succ,List.getElem?_drop];rw[show 1+t+1+k=(t+1+k)+1 by omega];simp only[kC,List.getElem?_cons_succ,List.getElem?_map];by_cases h3:t+1+k<24
   ·rw[List.getElem?_range h3];simp only[Option.map_some,if_neg (show ¬t+1+k=t by omega)]
   ·rw[List.getElem?_eq_none (by simp;omega)];rfl
theorem rfs_k8 {fr:Bool} {d:Nat} {h:Heap} {f:Nat→Int}:∀l:List Nat,rfs fr (d+2) h (l.map fun t=> .int .u8 (f t))=some (l.map fun t=> .int .u8 (f t))
 |[]=>rfs_nil
 |x::l=>rfs_cons (by simp[rf]) (rfs_k8 l)
theorem wrapu8 {x:Int} (h1:0≤x) (h2:x<256):IntKind.wrap .u8 x=x:=by
 unfold IntKind.wrap;simp only[IntKind.bits,IntKind.signed];simp;omega
theorem kC_key {u:List Int}:kC u.length (fun i=>if i<u.length then u.getD i 0 else 0)=eKey u:=by
 unfold kC eKey
 congr 1
 refine List.map_congr_left fun i _=>?_
 by_cases h:i<u.length
 ·show AV.int .u8 (if i<u.length then _ else _)=_;rw[if_pos h]
 ·show AV.int .u8 (if i<u.length then _ else _)=_;rw[if_neg h,List.getD_eq_getElem?_getD,List.getElem?_eq_none (by omega)];rfl
set_option maxHeartbeats 4000000 in
theorem fz77 (u:List Int) (hu:KeyW u):PF pg Tq 77 [.ro (u.map eIn)] (.agg (eKey u)):=by
 obtain⟨hu1,hu2⟩:=hu
 have fin:FH pg Tq 77 [.ro (u.map eIn)] h0 0 fun r h n=>r=.agg (eKey u):=by
  refine FH.of (N:=23) (rs:=#[.cell 2 170]) Tryz.func77 rfl rfl (of_decide_eq_true rfl) rfl (by decide) ?_;refine W.rseq (k:=1) rfl fun K hK=>?_;simp only[go_sem];refine hK _ _ _ ?_;clear hK K;refine W.rseq (k:=5) rfl fun K hK=>?_;simp only[go_sem,List.length_map];refine hK _ _ _ ?_;clear hK K;refine W.seqk fun K hK=>?_
  have nx:∀(t':Fr) (h':Heap) (n':Nat),4<n'→t' 2=.ptr 0 0 0→t' 3=.ptr 4 0 0→h' 0=some (.cells [kC 0 fun _=>0])→h' 4=some (.cells [eKey u])→K t' h' n':=by
   intro t' h' n' e1 e2 e3 e4 e5;refine hK _ _ _ ?_
   first|clear hK K|clear hK|skip
   have z0:∀j,¬0=n'+j:=fun j=>by omega
   have z4:∀j,¬4=n'+j:=fun j=>by omega
   rw[←kC_key] at e5 ⊢;refine W.rseq (k:=2) rfl fun K hK=>?_;simp only[go_sem,e2,e3,e4,e5,z0,z4,kC_len,kC_scal,kC_tk,kC_d,List.append_nil];refine hK _ _ _ ?_;clear hK K;refine W.ret ?_;simp only[go_sem,e2,kC_len,kC_scal,kC_tk]
  clear hK;refine W.rseq (k:=3) rfl fun K hK=>?_;simp only[go_sem,List.length_map];refine hK _ _ _ ?_;clear hK K
  refine W.block (W.while (fun m t h n=>∃j:Nat,m=u.length - j∧j≤u.length∧4<n∧h 0=some (.cells [kC 0 fun _=>0])∧h 4=some (.cells [kC u.length fun i=>if i<j then u.getD i 0 else 0])∧(t 2=.ptr 0 0 0∧t 3=.ptr 4 0 0∧t 9=.ro (u.map eIn)∧t 10=.int .i64 u.length)∧t 11=.int .i64 j) u.length
   ⟨0,by simp,by simp,by omega,by simp only[go_sem];rfl,by simp only[go_sem];rfl,⟨rfl,rfl,rfl,rfl⟩,rfl⟩ fun m t h n ⟨j,i1,i2,i3,i4,i5,i6,i7⟩=>?_)
  obtain⟨a2,a3,a9,a10⟩:=i6;refine W.rseq (k:=1) rfl fun K hK=>?_;simp only[go_sem,a10,i7];refine hK _ _ _ ?_;clear hK K;refine W.seq ?_
  refine W.cond rfl (fun hc=>?_) fun hc=>?_
  ·refine W.skip ?_;simp only[go_sem];have hj:j<u.length:=by simp at hc;omega
   obtain⟨x,hx⟩:=get_some hj;have hxk:(u.map eIn)[j]?=some (eIn x):=by rw[List.getElem?_map,hx];rfl
   obtain⟨hx1,hx2⟩:=hu2 x (List.mem_of_getElem? hx);have z0:∀j,¬0=n+j:=fun j=>by omega
   have z4:∀j,¬4=n+j:=fun j=>by omega
   refine W.seq ?_;refine W.block ?_;refine W.rseq (k:=5) rfl fun K hK=>?_;simp only[go_sem,a9,i7,hxk,eIn];refine hK _ _ _ ?_;clear hK K;refine W.region (k:=6) rfl ?_;simp only[go_sem,a3,i5,z0,z4,kC_len,wrapu8 hx1 hx2,show(j:Int)<24 by omega,Nat.mul_one,kC_over (show j<24 by omega),show 1+(j+1)≤25 by omega];refine W.region (k:=2) rfl ?_;simp only[go_sem,i7]
   refine⟨u.length - (j+1),by omega,j+1,rfl,by omega,by omega,i4, ?_,⟨a2,a3,a9,a10⟩, ?_⟩
   ·congr 4
    funext i;by_cases e:i=j
    ·subst e;rw[if_pos rfl,if_pos (by omega),List.getD_eq_getElem?_getD,hx];rfl
    ·rw[if_neg e];by_cases e2:i<j
     ·rw[if_pos e2,if_pos (by omega)]
     ·rw[if_neg e2,if_neg (by omega)]
   ·rw[wrap64 (by omega) (by omega)];rfl
  ·refine W.exit ?_;simp only[go_sem];have hj:j=u.length:=by simp at hc;omega
   subst hj;rw[kC_key] at i5;exact nx _ _ _ (by omega) a2 a3 i4 i5
 obtain⟨r,h',n',hb,rfl⟩:=fin
 exact⟨_,h',n',hb,8,fun fr=>by
  have e:rfs fr 7 h' (eKey u)=some (eKey u):=rfs_cons (by simp[rf]) (rfs_k8 _)
  simp[rf,e]⟩
end Go.Av
namespace Go.Av
open Go.Proofs
set_option maxRecDepth 100000
def loH (n:Nat) (h:Heap):Heap:=fun y=>if y<n then h y else none
theorem loH_sub {n:Nat} {h h':Heap} (hh:∀y,y<n→h' y=h y) (y:Nat) (o:AO) (e:loH n h y=some o):h' y=some o:=by
 unfold loH at e;by_cases q:y<n
 ·rw[if_pos q] at e;rw[hh y q];exact e
 ·rw[if_neg q] at e;cases e
theorem loH_lo {n n':Nat} {h h':Heap} (hn:n≤n') (hh:∀y,y<n→h' y=h y) (y:Nat) (o:AO) (e:loH n h y=some o):loH n' h' y=some o:=by
 have e1:=loH_sub hh y o e;unfold loH at e ⊢;by_cases q:y<n
 ·rw[if_pos (by omega)];exact e1
 ·rw[if_neg q] at e;cases e
def WV (h:Heap) (n:Nat) (v:AV) (w:List Int):Prop:=v=.ro (w.map eIn)∨∃b,v=.sl b 0 w.length 1∧b<n∧h b=some (.cells (w.map eIn))
theorem WV.next {h h':Heap} {n n':Nat} {v:AV} {w:List Int} (q:WV h n v w) (hn:n≤n') (hh:∀y,y<n→h' y=h y):WV h' n' v w:=by
 rcases q with q|⟨b,q1,q2,q3⟩
 ·exact .inl q
 ·exact .inr ⟨b,q1,by omega,(hh _ q2).trans q3⟩
theorem EM.args {g:Gr} {bE bM:Nat} {gp:AV} {h:Heap} {n:Nat} (m:EM g bE bM gp h n):∃(c:Int),h bE=some (.cells [[.int .i64 g.terms,.int .i64 g.nons,.int .i64 g.start,gp,.mp bM,.int .i64 c]])∧∀h':Heap,(∀y,y<n→y≠bE→y≠bM→h' y=h y)→∀fr,rf fr 8 h' gp=some (.ro (g.prods.map ePr)):=by
 obtain⟨m1,m2,m3,⟨c,hX,m4,m5,m6⟩,us,m7,m8⟩:=m;refine⟨c,m4,fun h' hh fr=>rf_sub (fun y o q=>?_) (m6 fr)⟩;obtain⟨a1,a2,a3,a4⟩:=m5 y o q;rw[hh y a3 a1 a2];exact a4
theorem rf_agg {g:Gr} {d:Nat} {h:Heap} {gp:AV} (e:rf true (d+8) h gp=some (.ro (g.prods.map ePr))):rf true (d+10) h (.agg [.int .i64 g.terms,.int .i64 g.nons,.int .i64 g.start,gp])=some (.agg (eGr g)):=by
 have h1:rfs true (d+9) h [.int .i64 g.terms,.int .i64 g.nons,.int .i64 g.start,gp]=some (eGr g):=rfs_cons (by simp[rf]) (rfs_cons (by simp[rf]) (rfs_cons (by simp[rf]) (rfs_cons e rfs_nil)));rw[rf,h1]
theorem ro_drop {w:List Int} {i:Nat}:((w.map eIn).drop i).take (w.length - i)=(w.drop i).map eIn:=by
 rw[List.map_drop];exact List.take_of_length_le (by simp)
theorem rf_slo {w:List Int} {i b d:Nat} {h:Heap} {fr:Bool} (hi:i≤w.length) (e:h b=some (.cells (w.map eIn))):rf fr (d+4) h (.sl b i (w.length - i) 1)=some (.ro ((w.drop i).map eIn)):=by
 rw[rf,e];simp only;rw[if_pos (by simp;omega),ro_drop,rfe_in]
theorem rf_slw {w:List Int} {i b d:Nat} {h:Heap} {fr:Bool} (hi:i≤w.length) (e:h b=some (.cells (w.map eIn))):rf fr (d+4) h (if i=0 then .sl b 0 w.length 1 else if i=w.length then .ro [] else .sl b i (w.length - i) 1)=some (.ro ((w.drop i).map eIn)):=by
 by_cases h1:i=0
 ·rw[if_pos h1];have:=rf_slo (i:=0) (d:=d) (fr:=fr) (Nat.zero_le _) e;rw[h1];exact this
 ·rw[if_neg h1];by_cases h2:i=w.length
  ·rw[if_pos h2,h2,List.drop_length];simp[rf]
  ·rw[if_neg h2];exact rf_slo hi e
set_option maxHeartbeats 4000000 in
theorem fz78 {g:Gr} (hg:SmG g) {bE bM:Nat} {gp:AV} {h:Heap} {n:Nat} (m:EM g bE bM gp h n) (w:List Int) (hw:w.length≤24) (v:AV) (hv:WV h n v w) (i:Nat) (hi:i≤w.length) (rv:AV) (B:List (Nat→Nat)) (hrv:rf true 8 (loH n h) rv=some (.ro (B.map eRw))) (hB:RcB g (w.drop i) B) (b2 b3 b6 b5:Nat) (l2:b2<n) (l3:b3<n) (l6:b6<n) (l5:b5<n) (e2:h b2=some (.cells [[.ptr bE 0 0]])) (e3:h b3=some (.cells [[v]])) (e6:h b6=some (.cells [[.int .i64 i]])) (e5:h b5=some (.cells [[rv]])):
  FH pg Tq 78 [.ptr b2 0 0,.ptr b3 0 0,.ptr b6 0 0,.ptr b5 0 0] h n fun r h' n'=>∃f,r=.agg (eRw f)∧Rc g (w.drop i) f∧n≤n'∧∀y,y<n→h' y=h y:=by
 obtain⟨c,eE,hgp⟩:=m.args;have lE:=m.lE;obtain⟨f,hf,hrc⟩:=fz79' g hg.small hg.right (w.drop i) (by rw[List.length_drop];omega) B hB;have z2:¬b2=n:=by omega
 have z3:¬b3=n:=by omega
 have z5:¬b5=n:=by omega
 have z6:¬b6=n:=by omega
 have zE:¬bE=n:=by omega
 have t2:(b2<n+1)=True:=eq_true (by omega);have t3:(b3<n+1)=True:=eq_true (by omega);have t5:(b5<n+1)=True:=eq_true (by omega);have t6:(b6<n+1)=True:=eq_true (by omega);have tE:(bE<n+1)=True:=eq_true (by omega);have hE1:∀v,rf true 8 (upd h n v) gp=some (.ro (g.prods.map ePr)):=fun v=>hgp _ (fun y q _ _=>by rw[upd_app,if_neg (by omega)]) true
 have hR1:∀v,rf true 8 (upd h n v) rv=some (.ro (B.map eRw)):=fun v=>rf_sub (loH_sub fun y q=>by rw[upd_app,if_neg (by omega)]) hrv
 refine FH.of (N:=14) (rs:=#[.cell 4 165]) Tryz.func78 rfl rfl (of_decide_eq_true rfl) rfl (by decide) ?_;refine W.rseq (k:=1) rfl fun K hK=>?_;simp only[go_sem];refine hK _ _ _ ?_;clear hK K
 have hle:(∀e∈w.map eIn,e.length=1)=True:=len_map (e:=eIn) (sz:=1) fun _=>rfl
 rcases hv with rfl|⟨b,rfl,q1,q2⟩
 ·refine W.dseq (k:=10) rfl fun K hK=>?_;simp only[go_sem,e2,e3,e5,e6,eE,z2,z3,z5,z6,zE,List.length_map,hi,hle,ro_drop,t2,t3,t5,t6,tE]
  refine VCall.frzq (as':=[.agg (eGr g),.ro ((w.drop i).map eIn),.ro (B.map eRw)]) 11 ?_ hf ?_
  ·exact rfs_cons (rf_agg (hE1 _)) (rfs_cons (by simp[rf]) (rfs_cons (rf_up (by omega) (hR1 _)) rfs_nil))
  simp only[go_sem,eR_len,eR_scal,eR_tk,eR_dz,List.append_nil];refine hK _ _ _ _ (by kernel_rfl) ?_;clear hK K;refine W.ret ?_;simp only[go_sem,eR_len,eR_scal,eR_tk];exact⟨f,rfl,hrc,by omega,fun y hy=>by simp only[go_sem,show ¬y=n by omega]⟩
 ·have zb:¬b=n:=by omega
  have tb:(b<n+1)=True:=eq_true (by omega);refine W.dseq (k:=10) rfl fun K hK=>?_;simp only[go_sem,e2,e3,e5,e6,eE,z2,z3,z5,z6,zE,zb,q2,List.length_map,hi,hle,t2,t3,t5,t6,tE,tb]
  refine VCall.frzq (as':=[.agg (eGr g),.ro ((w.drop i).map eIn),.ro (B.map eRw)]) 11 ?_ hf ?_
  ·refine rfs_cons (rf_agg (hE1 _)) (rfs_cons ?_ (rfs_cons (rf_up (by omega) (hR1 _)) rfs_nil));refine rf_slw hi ?_;rw[upd_app,if_neg zb,q2]
  simp only[go_sem,eR_len,eR_scal,eR_tk,eR_dz,List.append_nil];refine hK _ _ _ _ (by kernel_rfl) ?_;clear hK K;refine W.ret ?_;simp only[go_sem,eR_len,eR_scal,eR_tk];exact⟨f,rfl,hrc,by omega,fun y hy=>by simp only[go_sem,show ¬y=n by omega]⟩
theorem fz78' {g:Gr} (hg:SmG g) {bE bM:Nat} {gp:AV} {h:Heap} {n:Nat} (m:EM g bE bM gp h n) (w:List Int) (hw:w.length≤24) (v:AV) (hv:WV h n v w) (i:Nat) (hi:i≤w.length) (rv:AV) (B:List (Nat→Nat)) (hrv:rf true 8 (loH n h) rv=some (.ro (B.map eRw))) (hB:RcB g (w.drop i) B) (b2 b3 b6 b5:Nat) (l2:b2<n) (l3:b3<n) (l6:b6<n) (l5:b5<n) (e2:h b2=some (.cells [[.ptr bE 0 0]])) (e3:h b3=some (.cells [[v]])) (e6:h b6=some (.cells [[.int .i64 i]])) (e5:h b5=some (.cells [[rv]])) {H:Heap} {N:Nat} (hn:n≤N) (hH:∀y,y<n→H y=h y):
  FH pg Tq 78 [.ptr b2 0 0,.ptr b3 0 0,.ptr b6 0 0,.ptr b5 0 0] H N fun r h' n'=>∃f,r=.agg (eRw f)∧Rc g (w.drop i) f∧N≤n'∧∀y,y<N→h' y=H y:=
 fz78 hg (m.next hn hH) w hw v (hv.next hn hH) i hi rv B (rf_sub (loH_lo hn hH) hrv) hB b2 b3 b6 b5 (by omega) (by omega) (by omega) (by omega) ((hH _ l2).trans e2) ((hH _ l3).trans e3) ((hH _ l6).trans e6) ((hH _ l5).trans e5)
set_option maxHeartbeats 8000000 in
theorem fz76 {g:Gr} (hg:SmG g) {bE bM n0:Nat} {gp:AV} {h:Heap} {n:Nat} (m0:EM g bE bM gp h n0) (hn0:n0≤n) (w:List Int) (hw:w.length≤24) (hk:KeyW w) (v:AV) (hv:WV h n v w) (i:Nat) (hi:i≤w.length) (rv:AV) (B:List (Nat→Nat)) (hrv:rf true 8 (loH n h) rv=some (.ro (B.map eRw))) (hB:RcB g (w.drop i) B) (b2 b3 b6 b5:Nat) (l2:b2<n) (l3:b3<n) (l6:b6<n) (l5:b5<n) (e2:h b2=some (.cells [[.ptr bE 0 0]])) (e3:h b3=some (.cells [[v]])) (e6:h b6=some (.cells [[.int .i64 i]])) (e5:h b5=some (.cells [[rv]])):
  FH pg Tq 76 [.ptr bE 0 4,.agg (eKey (w.drop i)),.fn 78 [.ptr b2 0 0,.ptr b3 0 0,.ptr b6 0 0,.ptr b5 0 0]] h n fun r h' n'=>∃f k,r=.tup [.agg (eRw f),.bool k]∧Rc g (w.drop i) f∧EM g bE bM gp h' n0∧n≤n'∧∀y,y<n→y≠bM→h' y=h y:=by
 have m:=m0.next hn0 (fun _ _=>rfl);have hku:KeyW (w.drop i):=⟨by rw[List.length_drop];omega,fun t ht=>hk.2 t (List.mem_of_mem_drop ht)⟩;obtain⟨m1,m2,m3,⟨c,hX,m4,m5,m6⟩,us,m7,m8⟩:=id m0;obtain⟨u,hu⟩:∃u,u=w.drop i:=⟨_,rfl⟩;rw[←hu] at hku ⊢;have hko:=key_ok hku;have hkk:(eKey u).length=25:=by rw[←kC_key];exact kC_len
 have hks:(eKey u).all scal=true:=by rw[←kC_key];exact kC_scal
 have hkt:(eKey u).take 25=eKey u:=by rw[←kC_key];exact kC_tk
 have hkd:(eKey u).drop 25=[]:=by rw[←kC_key];exact kC_d
 have zE:∀j,¬bE=n+j:=fun j=>by omega
 have zM:∀j,¬bM=n+j:=fun j=>by omega
 have zE':¬bE=n:=by omega
 have zM':¬bM=n:=by omega
 have lE:∀j,(bE<n+j)=True:=fun j=>eq_true (by omega)
 have lM:∀j,(bM<n+j)=True:=fun j=>eq_true (by omega)
 refine FH.of (N:=31) (rs:=#[.cell 6 165,.tmp 7]) Tryz.func76 rfl rfl (of_decide_eq_true rfl) rfl (by decide) ?_;refine W.rseq (k:=3) rfl fun K hK=>?_;simp only[go_sem,hks];refine hK _ _ _ ?_;clear hK K
 rcases find_kw hku us m8 with ⟨f,q1,q2⟩|q2
 ·refine W.dseq (k:=12) rfl fun K hK=>?_;simp only[go_sem,m4,m7,zE,zM,zE',zM',lE,lM,hkk,hks,hkt,hkd,aLookup,hko,q2,eR_len,eR_scal,eR_tk,eR_dz,List.append_nil];refine hK _ _ _ _ (by kernel_rfl) ?_;clear hK K;refine W.seq ?_;refine W.rseq (k:=2) rfl fun K hK=>?_;simp only[go_sem];refine hK _ _ _ ?_;clear hK K;refine W.condF (by simp only[go_sem]) ?_;refine W.skip ?_;simp only[go_sem];refine W.rseq (k:=4) rfl fun K hK=>?_;simp only[go_sem,eR_len,eR_scal,eR_tk,eR_dz,eR_d,List.append_nil];refine hK _ _ _ ?_;clear hK K;refine W.ret ?_;simp only[go_sem,eR_len,eR_scal,eR_tk]
  exact⟨f,true,rfl,q1,m0.next (Nat.le_refl _) (fun y hy=>by simp only[go_sem,show ∀j,¬y=n+j from fun j=>by omega,show ¬y=n by omega]),by omega,fun y hy _=>by simp only[go_sem,show ∀j,¬y=n+j from fun j=>by omega,show ¬y=n by omega]⟩
 ·refine W.dseq (k:=12) rfl fun K hK=>?_;simp only[go_sem,m4,m7,zE,zM,zE',zM',lE,lM,hkk,hks,hkt,hkd,aLookup,hko,q2,eR_len,eR_scal,eR_tk,eR_dz,List.append_nil];refine hK _ _ _ _ (by kernel_rfl) ?_;clear hK K;refine W.seqk fun K hK=>?_
  have nx:∀(t':Fr) (h':Heap) (n':Nat) (f:Nat→Nat),Rc g u f→EM g bE bM gp h' n0→n+12<n'→(∀y,y<n→y≠bM→h' y=h y)→t' 6=.ptr (n+1) 0 0→t' 8=.ptr (n+12) 0 0→t' 9=.bool false→h' (n+1)=some (.cells [eRw fun _=>0])→h' (n+12)=some (.cells [eRw f])→K t' h' n':=by
   intro t' h' n' f s1 s2 s3 s4 s5 s6 s7 s8 s9;refine hK _ _ _ ?_
   first|clear hK K|clear hK|skip
   have z1:∀j,¬n+1=n'+j:=fun j=>by omega
   have z2:∀j,¬n+12=n'+j:=fun j=>by omega
   refine W.rseq (k:=4) rfl fun K hK=>?_;simp only[go_sem,s5,s6,s7,s8,s9,z1,z2,eR_len,eR_scal,eR_tk,eR_dz,eR_d,List.append_nil];refine hK _ _ _ ?_;clear hK K;refine W.ret ?_;simp only[go_sem,s5,eR_len,eR_scal,eR_tk]
   refine⟨f,false,rfl,s1,s2.next (Nat.le_refl _) (fun y hy=>by simp only[go_sem,show ¬y=n+1 by omega]),by omega,fun y hy q=>?_⟩;simp only[go_sem,show ¬y=n+1 by omega];exact s4 y hy q
  clear hK;refine W.rseq (k:=2) rfl fun K hK=>?_;simp only[go_sem];refine hK _ _ _ ?_;clear hK K;refine W.condT (by simp only[go_sem]) ?_;refine W.rseq (k:=3) rfl fun K hK=>?_;simp only[go_sem]
  refine VCall.heap (fz78' hg m w hw v hv i hi rv B hrv hB b2 b3 b6 b5 l2 l3 l6 l5 e2 e3 e6 e5 (by omega) (fun y hy=>by simp only[go_sem,show ∀j,¬y=n+j from fun j=>by omega,show ¬y=n by omega])) fun r h2 n2 ⟨f,r1,r2,r3,r4⟩=>?_
  subst r1;rw[←hu] at r2;have k0:h2 n=some (.cells [eKey u]):=(r4 _ (by omega)).trans (by simp only[go_sem]);have k1:h2 (n+1)=some (.cells [eRw fun _=>0]):=(r4 _ (by omega)).trans (by simp only[go_sem];rfl);have k12:h2 (n+12)=some (.cells [eRw fun _=>0]):=(r4 _ (by omega)).trans (by simp only[go_sem];rfl);have kE:=(r4 bE (by omega)).trans (show _=h bE by simp only[go_sem,zE,zE']);have kM:=(r4 bM (by omega)).trans (show _=h bM by simp only[go_sem,zM,zM']);rw[m4] at kE;rw[m7] at kM;simp only[go_sem,k12,eR_len,eR_scal,eR_tk,eR_dz,eR_d,List.append_nil];refine hK _ _ _ ?_
  first|clear hK K|clear hK|skip
  refine W.draw (k:=7) rfl ?_;simp only[go_sem,kE,kM,k0,aMapUpdate,hkk,hkt,zE,zM,lE,lM,show ¬bE=n+12 by omega,show ¬bM=n+12 by omega,show(bE<n2)=True from eq_true (by omega),show(bM<n2)=True from eq_true (by omega),show(n<n2)=True from eq_true (by omega),show(n+12<n2)=True from eq_true (by omega),hko,q2,eR_len,eR_tk];refine⟨by kernel_rfl, ?_⟩;refine nx _ _ _ f r2 ?_ (by omega) (fun y hy q=>?_) rfl rfl rfl ?_ ?_
  ·refine⟨m1,m2,m3,⟨c,hX, ?_,fun y o q=>?_,m6⟩,us++[(u,f)], ?_,fun p hp=>?_⟩
   ·simp only[go_sem,m3,show ¬bE=n+12 by omega];exact kE
   ·obtain⟨a1,a2,a3,a4⟩:=m5 y o q;refine⟨a1,a2,a3, ?_⟩;simp only[go_sem,a2,show ¬y=n+12 by omega];refine(r4 y (by omega)).trans ?_;simp only[go_sem,show ∀j,¬y=n+j from fun j=>by omega,show ¬y=n by omega];exact a4
   ·simp only[go_sem];unfold eKn;rw[List.map_append];rfl
   ·rcases List.mem_append.1 hp with hp|hp
    ·exact m8 p hp
    ·have:p=(u,f):=by simpa using hp
     subst this;exact⟨r2,hku⟩
  ·simp only[go_sem,q,show ¬y=n+12 by omega];refine(r4 y (by omega)).trans ?_;simp only[go_sem,show ∀j,¬y=n+j from fun j=>by omega,show ¬y=n by omega]
  ·simp only[go_sem,show ¬n+1=bM by omega];exact k1
  ·simp only[go_sem,show ¬n+12=bM by omega]
end Go.Av
