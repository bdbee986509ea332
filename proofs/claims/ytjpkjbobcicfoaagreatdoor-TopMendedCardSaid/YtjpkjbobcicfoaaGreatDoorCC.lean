/-
  Texts C9, C9b, C9c of this work, one behind the other. Conditions: none.
-/
import Derived.Test.YtjpkjbobcicfoaaGreatDoorOB
set_option linter.unusedSimpArgs false
set_option linter.unusedVariables false
namespace Go.Av
open Go.Proofs
def Bd (l:List Fc) (b:Int):Prop:=∀n:Int,0≤rk l n∧rk l n≤b
theorem rk_set {l:List Fc} {a:Nat} {f:Fc} {n:Int}:rk (l.set a f) n=if a=n.toNat∧a<l.length then f.1 else rk l n:=by
 unfold rk;rw[List.getD_eq_getElem?_getD,List.getD_eq_getElem?_getD,List.getElem?_set];by_cases h:a=n.toNat
 ·subst h;by_cases h2:n.toNat<l.length
  ·simp[h2]
  ·simp[h2]
 ·simp[h]
theorem off_set {l:List Fc} {left rank:Int} {i:Int} {terms:Bool} (h0:rk l left=0) {s:Sy}:off (l.set left.toNat (rank,i)) rank terms s=off l rank terms s:=by
 unfold off;split
 ·rw[rk_set];by_cases h:left.toNat=s.n.toNat∧left.toNat<l.length
  ·rw[if_pos h]
   have:rk l s.n=0:=by
    rw[←h0];unfold rk;rw[h.1]
   simp[this]
  ·rw[if_neg h]
 ·rfl
theorem fits_set {l:List Fc} {left rank:Int} {i:Int} {terms:Bool} (h0:rk l left=0) {p:Pr}:fits p (l.set left.toNat (rank,i)) rank terms=fits p l rank terms:=by
 unfold fits
 congr 1
 exact congrArg (fun f=>p.right.any f) (funext fun s=>off_set h0)
theorem fits_fits0 {l:List Fc} {rank b:Int} {terms:Bool} (h:Bd l b) {p:Pr}:fits0 p l rank terms=fits p l rank terms:=by
 unfold fits fits0
 congr 1
 refine congrArg (fun f=>p.right.any f) (funext fun s=>?_);unfold off off0;have:=h s.n;split
 ·congr 1
  by_cases h1:rk l s.n=0
  ·simp[h1]
  ·simp[h1];omega
 ·rfl
theorem foldR_at {rank:Int} {terms:Bool} (hr:rank≠0):∀(xs:List Pr) (j:Nat) (s:List Fc×Bool) (F:Pr→Bool) (hF:∀p,fits p s.1 rank terms=F p) (h0:∀p∈xs,0≤p.left) (x:Nat) (hx:x<s.1.length),
  ((xs.zipIdx j).foldl (stepR rank terms) s).1.getD x (0,0)=if rk s.1 x=0 then (match xs.findIdx? (fun p=>decide (p.left=(x:Int)) && F p) with
    |some q=>(rank,((q+j:Nat):Int))
    |none=>s.1.getD x (0,0)) else s.1.getD x (0,0)
 |[],j,s,F,hF,h0,x,hx=>by simp
 |p::xs,j,s,F,hF,h0,x,hx=>by
  rw[List.zipIdx_cons,List.foldl_cons,List.findIdx?_cons];have hp:=h0 p (by simp);by_cases c:rk s.1 p.left=0∧fits p s.1 rank terms=true
  ·have e:stepR rank terms s (p,j)=(s.1.set p.left.toNat (rank,(j:Int)),true):=by simp only[stepR,c,and_self,if_true]
   rw[e,foldR_at hr xs (j+1) _ F (fun p'=>by rw[←hF p'];exact fits_set c.1) (fun p' h'=>h0 p' (by simp[h'])) x (by simpa using hx)];by_cases hpx:p.left=(x:Int)
   ·have h1:p.left.toNat=x:=by omega
    have h2:rk s.1 (x:Int)=0:=by rw[←hpx];exact c.1
    have h3:F p=true:=by rw[←hF p];exact c.2
    have h4:rk (s.1.set p.left.toNat (rank,(j:Int))) (x:Int)=rank:=by
     rw[rk_set,if_pos ⟨by omega,by omega⟩]
    rw[h4,if_neg hr,h2,if_pos rfl];simp[hpx,h3,h1,hx,List.getD_eq_getElem?_getD]
   ·have h1:¬p.left.toNat=x:=by omega
    have h4:rk (s.1.set p.left.toNat (rank,(j:Int))) (x:Int)=rk s.1 x:=by
     rw[rk_set,if_neg (by omega)]
    have h5:(s.1.set p.left.toNat (rank,(j:Int))).getD x (0,0)=s.1.getD x (0,0):=by
     simp[List.getD_eq_getElem?_getD,List.getElem?_set,h1]
    simp only[h4,h5,hpx,decide_false,Bool.false_and,Bool.false_eq_true,if_false];split
    ·cases xs.findIdx? (fun p=>decide (p.left=(x:Int)) && F p) with
     |none=>rfl
     |some q=>simp;omega
    ·rfl
  ·have e:stepR rank terms s (p,j)=s:=by simp only[stepR,c,if_false]
   rw[e,foldR_at hr xs (j+1) s F hF (fun p' h'=>h0 p' (by simp[h'])) x hx];by_cases h2:rk s.1 (x:Int)=0
   ·have h3:(decide (p.left=(x:Int)) && F p)=false:=by
     rw[←hF p];by_cases hpx:p.left=(x:Int)
     ·rw[hpx] at c;simpa[h2,hpx] using c
     ·simp[hpx]
    simp only[h2,if_true,h3,Bool.false_eq_true,if_false]
    cases xs.findIdx? (fun p=>decide (p.left=(x:Int)) && F p) with
    |none=>rfl
    |some q=>simp;omega
   ·simp[h2]
theorem foldR_flag {rank:Int} {terms:Bool}:∀(xs:List (Pr×Nat)) (s:List Fc×Bool),(xs.foldl (stepR rank terms) s).2=false→xs.foldl (stepR rank terms) s=s
 |[],s,_=>rfl
 |x::xs,s,h=>by
  rw[List.foldl_cons] at h ⊢;have ih:=foldR_flag xs _ h;rw[ih] at h ⊢;unfold stepR at h ⊢;split
  ·rename_i c;rw[if_pos c] at h;cases h
  ·rfl
theorem round_next {g:Gr} {rank:Int} {terms:Bool} {l:List Fc} {b:Int} (hr:rank≠0) (hb:Bd l b) (h:g.In l):(round g rank terms l).1=nextL g terms rank l:=by
 refine List.ext_getElem (by rw[round_len,nextL_len]) fun x h1 h2=>?_
 rw[round_len] at h1;have e:=foldR_at (terms:=terms) hr g.prods 0 (l,false) (fun p=>fits0 p l rank terms) (fun p=>(fits_fits0 hb).symm) (fun p hp=>(h p hp).1.1) x h1;have e1:(round g rank terms l).1.getD x (0,0)=(round g rank terms l).1[x]'(by rw[round_len];exact h1):=by simp[round_len,h1]
 rw[←e1];show((g.prods.zipIdx).foldl (stepR rank terms) (l,false)).1.getD x (0,0)=_;rw[e];simp only[nextL,List.getElem_map,List.getElem_range,nextFrom,List.drop_zero];rfl
theorem Bd_next {g:Gr} {terms:Bool} {rank b:Int} {l:List Fc} (hb:Bd l b) (h1:b≤rank) (h2:0≤rank):Bd (nextL g terms rank l) rank:=by
 intro n;have hn:=hb n;unfold rk at hn ⊢;by_cases hx:n.toNat<l.length
 ·have e:(nextL g terms rank l).getD n.toNat (0,0)=nextFrom g l rank terms n.toNat 0:=by simp[nextL,hx,List.getD_eq_getElem?_getD]
  rw[e];unfold nextFrom;split
  ·split
   ·simp only;omega
   ·omega
  ·omega
 ·have e:(nextL g terms rank l).getD n.toNat (0,0)=(0,0):=by
   rw[List.getD_eq_getElem?_getD,List.getElem?_eq_none (by rw[nextL_len];omega)];rfl
  rw[e];exact⟨by decide,h2⟩
theorem next_stay {g:Gr} {terms:Bool} {rank rank':Int} {l:List Fc} (hr:1≤rank) (hb:Bd l (rank - 1)) (h:nextL g terms rank l=l) (h':rank≤rank'):nextL g terms rank' l=l:=by
 refine List.ext_getElem (by rw[nextL_len]) fun x h1 h2=>?_
 have e:(nextL g terms rank l)[x]'(by rw[nextL_len];exact h2)=l[x]:=List.getElem_of_eq h _;simp only[nextL,List.getElem_map,List.getElem_range,nextFrom,List.drop_zero] at e ⊢
 have hf:∀p:Pr,fits0 p l rank' terms=fits0 p l rank terms:=fun p=>by
  unfold fits0
  congr 1
  refine congrArg (fun f=>p.right.any f) (funext fun s=>?_);unfold off0;have:=hb s.n;split
  ·rw[decide_eq_false (p:=rank'≤rk l s.n) (by omega),decide_eq_false (p:=rank≤rk l s.n) (by omega)]
  ·rfl
 simp only[hf];have hd:l.getD x (0,0)=l[x]:=by simp[h2]
 split
 ·rename_i h0
  rw[if_pos h0] at e;split
  ·rename_i q hq
   rw[hq] at e;simp only at e;have:rk l (x:Int)=rank:=by unfold rk;rw[Int.toNat_natCast,hd,←e]
   omega
  ·exact hd
 ·exact hd
theorem iter_stay {g:Gr} {terms:Bool} {rank:Int} {l:List Fc} (hr:1≤rank) (hb:Bd l (rank - 1)) (h:nextL g terms rank l=l):∀(m:Nat) (rank':Int),rank≤rank'→iterR g terms m rank' l=l
 |0,_,_=>rfl
 |m+1,rank',h'=>by rw[iterR,next_stay hr hb h h',iter_stay hr hb h m (rank'+1) (by omega)]
theorem loop_iter {g:Gr} {terms:Bool}:∀(m:Nat) (rank:Int) (l:List Fc),1≤rank→Bd l (rank - 1)→g.In l→zeros l≤m→loopR g terms (m+1) rank l=iterR g terms m rank l
 |0,rank,l,hr,hb,hi,hz=>by
  have h2:(round g rank terms l).2=false:=by
   cases h:(round g rank terms l).2 with
   |false=>rfl
   |true=>have:=round_zeros (by omega) hi h;omega
  have h3:(round g rank terms l).1=l:=by
   have:=foldR_flag _ _ h2;exact congrArg (·.1) this
  rw[loopR,h2,if_neg (by simp),iterR,h3]
 |m+1,rank,l,hr,hb,hi,hz=>by
  have hn:=round_next (terms:=terms) (rank:=rank) (by omega) hb hi
  cases h:(round g rank terms l).2 with
  |false=>
   have h3:(round g rank terms l).1=l:=congrArg (·.1) (foldR_flag _ _ h);rw[loopR,h,if_neg (by simp),h3,iter_stay hr hb (by rw[←hn];exact h3) _ _ (Int.le_refl _)]
  |true=>
   have:=round_zeros (by omega) hi h;rw[loopR,h,if_pos rfl,iterR,hn];refine loop_iter m (rank+1) _ (by omega) ?_ (hi.of (by rw[nextL_len])) (by rw[←hn];omega);rw[show rank+1 - 1=rank by omega];exact Bd_next hb (by omega) (by omega)
theorem Bd_zero {n:Nat}:Bd (List.replicate n (0,0)) 0:=by
 intro k
 have:(List.replicate n ((0,0):Fc)).getD k.toNat (0,0)=(0,0):=by
  rw[List.getD_eq_getElem?_getD,List.getElem?_replicate];split<;>rfl
 unfold rk;rw[this];decide
theorem ranks_same (g:Gr) (terms:Bool):ranksL g terms=ranksRef g terms:=by
 unfold ranksL ranksRef
 cases h:right g with
 |false=>rfl
 |true=>
  obtain⟨hn,_⟩:=right_in h;rw[if_pos rfl,if_pos rfl];exact loop_iter _ 1 _ (by omega) Bd_zero (right_In h (by simp;omega)) (by unfold zeros;exact Nat.le_trans (List.countP_le_length) (by simp))
end Go.Av
namespace Go.Av
open Go.Proofs
theorem fits_iff {p:Pr} {l:List Fc} {r:Int} {terms:Bool}:fits p l r terms=true↔∀s∈p.right,if s.non then 1≤rk l s.n∧rk l s.n<r else terms=true:=by
 unfold fits;simp only[Bool.not_eq_true',List.any_eq_false];refine forall_congr' fun s=>forall_congr' fun hs=>?_
 unfold off
 cases s.non with
 |true=>simp
 |false=>simp
def Sh (g:Gr) (terms:Bool) (l:List Fc):Prop:=∀(x:Nat) (f:Fc),l[x]?=some f→showAt g l terms x f=true
def Cl (g:Gr) (terms:Bool) (l:List Fc) (r:Int):Prop:=1≤r→∀p∈g.prods,fits p l r terms=true→1≤rk l p.left∧rk l p.left≤r
theorem rk_get {l:List Fc} {x:Nat} {f:Fc} (h:l[x]?=some f):rk l (x:Int)=f.1:=by
 simp[rk,List.getD_eq_getElem?_getD,h]
theorem rk_next {g:Gr} {terms:Bool} {rank:Int} {l:List Fc} {n:Int}:rk (nextL g terms rank l) n=rk l n∨(rk l n=0∧rk (nextL g terms rank l) n=rank∧n.toNat<l.length):=by
 unfold rk;by_cases hx:n.toNat<l.length
 ·have e:(nextL g terms rank l).getD n.toNat (0,0)=nextFrom g l rank terms n.toNat 0:=by simp[nextL,hx,List.getD_eq_getElem?_getD]
  rw[e];unfold nextFrom;split
  ·rename_i h0
   split
   ·exact .inr ⟨by unfold rk at h0;rwa[Int.toNat_natCast] at h0,rfl,hx⟩
   ·exact .inl rfl
  ·exact .inl rfl
 ·have e:(nextL g terms rank l).getD n.toNat (0,0)=(0,0):=by
   rw[List.getD_eq_getElem?_getD,List.getElem?_eq_none (by rw[nextL_len];omega)];rfl
  have e2:l.getD n.toNat (0,0)=(0,0):=by
   rw[List.getD_eq_getElem?_getD,List.getElem?_eq_none (by omega)];rfl
  rw[e,e2];exact .inl rfl
theorem fits_next {g:Gr} {terms:Bool} {rank r:Int} {l:List Fc} (h:r≤rank) {p:Pr}:fits p (nextL g terms rank l) r terms=fits p l r terms:=by
 unfold fits
 congr 1
 refine congrArg (fun f=>p.right.any f) (funext fun s=>?_);unfold off;split
 ·rcases rk_next (g:=g) (terms:=terms) (rank:=rank) (l:=l) (n:=s.n) with e|⟨e1,e2,_⟩
  ·rw[e]
  ·rw[e1,e2];simp[h]
 ·rfl
theorem next_left {g:Gr} {terms:Bool} {rank:Int} {l:List Fc} {p:Pr} {b:Int} (hp:p∈g.prods) (h0:0≤p.left) (h1:p.left<l.length) (hb:Bd l b) (hf:fits p l rank terms=true):rk l p.left≠0∨rk (nextL g terms rank l) p.left=rank:=by
 by_cases h:rk l p.left=0
 ·right
  have hx:p.left.toNat<l.length:=by omega
  have e:(nextL g terms rank l).getD p.left.toNat (0,0)=nextFrom g l rank terms p.left.toNat 0:=by simp[nextL,hx,List.getD_eq_getElem?_getD]
  have e2:((p.left.toNat:Nat):Int)=p.left:=by omega
  unfold rk;rw[e];unfold nextFrom;rw[e2,if_pos h,List.drop_zero]
  cases hq:g.prods.findIdx? (fun p'=>decide (p'.left=p.left) && fits0 p' l rank terms) with
  |some q=>rfl
  |none=>
   rw[List.findIdx?_eq_none_iff] at hq;have:=hq p hp;rw[fits_fits0 hb,hf] at this;simp at this
 ·exact .inl h
theorem Sh_next {g:Gr} {terms:Bool} {rank:Int} {l:List Fc} (hr:1≤rank) (hb:Bd l (rank - 1)) (hs:Sh g terms l):Sh g terms (nextL g terms rank l):=by
 intro x f hf
 have hx:x<l.length:=by
  have:=(List.getElem?_eq_some_iff.1 hf).1;rwa[nextL_len] at this
 have e:f=nextFrom g l rank terms x 0:=by
  simp[nextL,hx] at hf;exact hf.symm
 have hl:l[x]?=some (l.getD x (0,0)):=by simp[hx]
 have hold:=hs x _ hl;have hbx:=hb (x:Int);rw[rk_get hl] at hbx
 have keep:showAt g (nextL g terms rank l) terms x (l.getD x (0,0))=true:=by
  unfold showAt at hold ⊢
  revert hold
  split
  ·exact id
  ·split
   ·exact id
   ·split
    ·exact id
    ·split
     ·rw[fits_next (by omega)];exact id
     ·exact id
 unfold nextFrom at e;split at e
 ·rename_i h0
  split at e
  ·rename_i q hq
   subst e;rw[List.drop_zero] at hq;obtain⟨hq1,hq2,_⟩:=List.findIdx?_eq_some_iff_getElem.1 hq;simp only[Bool.and_eq_true,decide_eq_true_eq] at hq2;unfold showAt;have h1:g.prods[(((q+0:Nat):Int)).toNat]?=some (g.prods[q]):=by simp[hq1]
   rw[if_neg (by simp only;omega),if_neg (by simp only;omega),if_neg (by simp only;omega)];simp only[h1];rw[fits_next (Int.le_refl _),←fits_fits0 hb,hq2.2,hq2.1];simp
  ·subst e;exact keep
 ·subst e;exact keep
theorem loop_fin {g:Gr} {terms:Bool}:∀(m:Nat) (rank:Int) (l:List Fc),1≤rank→Bd l (rank - 1)→g.In l→zeros l≤m→Sh g terms l→(∀r,r<rank→Cl g terms l r)→
  (loopR g terms (m+1) rank l).length=l.length∧(∃b,Bd (loopR g terms (m+1) rank l) b)∧Sh g terms (loopR g terms (m+1) rank l)∧∀r,Cl g terms (loopR g terms (m+1) rank l) r:=by
 have stop:∀(rank:Int) (l:List Fc),1≤rank→Bd l (rank - 1)→g.In l→(round g rank terms l).2=false→(∀r,r<rank→Cl g terms l r)→∀r,Cl g terms l r:=by
  intro rank l hr hb hi h2 hc r h1r p hp hf
  have h3:nextL g terms rank l=l:=by
   rw[←round_next (by omega) hb hi];exact congrArg (·.1) (foldR_flag _ _ h2)
  by_cases hlt:r<rank
  ·exact hc r hlt h1r p hp hf
  ·have hf':fits p l rank terms=true:=by
    rw[fits_iff] at hf ⊢;intro s hs;have:=hf s hs;split
    ·rename_i hn
     rw[if_pos hn] at this;have:=hb s.n;omega
    ·rename_i hn
     rw[if_neg hn] at this;exact this
   have hbl:=hb p.left;rcases next_left hp (hi p hp).1.1 (hi p hp).1.2 hb hf' with h|h
   ·omega
   ·rw[h3] at h;omega
 intro m
 induction m with
 |zero=>
  intro rank l hr hb hi hz hs hc
  have h2:(round g rank terms l).2=false:=by
   cases h:(round g rank terms l).2 with
   |false=>rfl
   |true=>have:=round_zeros (by omega) hi h;omega
  have h3:(round g rank terms l).1=l:=congrArg (·.1) (foldR_flag _ _ h2);rw[loopR,h2,if_neg (by simp),h3];exact⟨rfl,⟨_,hb⟩,hs,stop rank l hr hb hi h2 hc⟩
 |succ m ih=>
  intro rank l hr hb hi hz hs hc
  cases h:(round g rank terms l).2 with
  |false=>
   have h3:(round g rank terms l).1=l:=congrArg (·.1) (foldR_flag _ _ h);rw[loopR,h,if_neg (by simp),h3];exact⟨rfl,⟨_,hb⟩,hs,stop rank l hr hb hi h hc⟩
  |true=>
   have hn:=round_next (terms:=terms) (rank:=rank) (by omega) hb hi;have hz':=round_zeros (by omega) hi h;rw[loopR,h,if_pos rfl,hn];rw[hn] at hz';have hbn:Bd (nextL g terms rank l) rank:=Bd_next hb (by omega) (by omega)
   have:=ih (rank+1) (nextL g terms rank l) (by omega) (by rw[show rank+1 - 1=rank by omega];exact hbn) (hi.of (by rw[nextL_len])) (by omega) (Sh_next hr hb hs) (fun r hlt h1r p hp hf=>by
    rw[fits_next (by omega)] at hf;have hbl:=hb p.left;by_cases hlt2:r<rank
    ·have:=hc r hlt2 h1r p hp hf;rcases rk_next (g:=g) (terms:=terms) (rank:=rank) (l:=l) (n:=p.left) with e|⟨e1,e2,_⟩
     ·rw[e];exact this
     ·omega
    ·have:r=rank:=by omega
     subst this;rcases next_left hp (hi p hp).1.1 (hi p hp).1.2 hb hf with h|h
     ·rcases rk_next (g:=g) (terms:=terms) (rank:=r) (l:=l) (n:=p.left) with e|⟨e1,e2,_⟩
      ·rw[e];omega
      ·omega
     ·omega)
   rw[nextL_len] at this;exact this
theorem ranks_fin {g:Gr} {terms:Bool} (h:right g=true):((ranksL g terms).length:Int)=g.nons∧(∃b,Bd (ranksL g terms) b)∧Sh g terms (ranksL g terms)∧∀r,Cl g terms (ranksL g terms) r:=by
 obtain⟨hn,_⟩:=right_in h;unfold ranksL;rw[if_pos h]
 have:=loop_fin (g:=g) (terms:=terms) g.nons.toNat 1 (List.replicate g.nons.toNat (0,0)) (by omega) Bd_zero (right_In h (by simp;omega)) (by unfold zeros;exact Nat.le_trans (List.countP_le_length) (by simp))
  (fun x f hf=>by
    rw[List.getElem?_replicate] at hf;split at hf
    ·cases hf;simp[showAt]
    ·cases hf)
  (fun r hr h1r=>by omega)
 refine⟨by rw[this.1];simp;omega,this.2⟩
end Go.Av
namespace Go.Av
open Go.Proofs
theorem shows_sh {g:Gr} {terms:Bool} {l:List Fc} (h:shows g l terms=true):right g=true∧(l.length:Int)=g.nons∧Sh g terms l:=by
 simp only[shows,Bool.and_eq_true,decide_eq_true_eq,List.all_eq_true] at h;exact⟨h.1.1,h.1.2,fun x f hf=>h.2 (f,x) (List.mk_mem_zipIdx_iff_getElem?.2 hf)⟩
theorem Sh.prod {g:Gr} {terms:Bool} {l:List Fc} (h:Sh g terms l) {n:Int} (h0:0≤n) (hr:rk l n≠0):1≤rk l n∧∃p∈g.prods,p.left=n∧fits p l (rk l n) terms=true:=by
 have hn:n.toNat<l.length:=by
  rcases Nat.lt_or_ge n.toNat l.length with h|h
  ·exact h
  ·exfalso;apply hr;unfold rk;rw[List.getD_eq_getElem?_getD,List.getElem?_eq_none h];rfl
 have hl:l[n.toNat]?=some (l.getD n.toNat (0,0)):=by simp[hn]
 have hs:=h _ _ hl;have e:rk l n=(l.getD n.toNat (0,0)).1:=rfl;unfold showAt at hs;rw[←e] at hs;split at hs
 ·cases hs
 ·rename_i h1
  split at hs
  ·cases hs
  ·split at hs
   ·rename_i p hp
    simp only[Bool.and_eq_true,decide_eq_true_eq] at hs;refine⟨by omega,p,List.mem_of_getElem? hp, ?_,hs.2⟩;omega
   ·cases hs
theorem least {g:Gr} {terms:Bool} {l:List Fc} (hl:shows g l terms=true):∀(k:Nat) (n:Int),0≤n→rk l n≠0→(rk l n).toNat≤k→1≤rk (ranksL g terms) n∧rk (ranksL g terms) n≤rk l n
 |0,n,h0,hr,hk=>by
  obtain⟨_,_,hs⟩:=shows_sh hl;have:=(hs.prod h0 hr).1;omega
 |k+1,n,h0,hr,hk=>by
  obtain⟨hg,_,hs⟩:=shows_sh hl;obtain⟨h1,p,hp,hpl,hf⟩:=hs.prod h0 hr;obtain⟨_,_,_,hcl⟩:=ranks_fin (terms:=terms) hg;obtain⟨_,_,_,_,hin⟩:=right_in hg;rw[←hpl];rw[←hpl] at hf h1 hk;refine hcl _ h1 p hp ?_;rw[fits_iff] at hf ⊢;intro s hsm;have h2:=hf s hsm;split
  ·rename_i hn
   rw[if_pos hn] at h2;have h3:=(hin p hp).2.2 s hsm;have:=least hl k s.n h3.1 (by omega) (by omega);omega
  ·rename_i hn
   rw[if_neg hn] at h2;exact h2
inductive Der (g:Gr) (w:List Int):List Sy→Nat→Nat→Prop
 |nil {a:Nat} (h:a≤w.length):Der g w [] a a
 |term {t:Int} {l:List Sy} {a c:Nat} (h:w[a]?=some t) (hl:Der g w l (a+1) c):Der g w (⟨false,t⟩::l) a c
 |non {p:Pr} {l:List Sy} {a b c:Nat} (hp:p∈g.prods) (hr:Der g w p.right a b) (hl:Der g w l b c):Der g w (⟨true,p.left⟩::l) a c
theorem Der.le {g:Gr} {w:List Int} {l:List Sy} {a b:Nat} (h:Der g w l a b):a≤b∧b≤w.length:=by
 induction h with
 |nil h=>exact⟨Nat.le_refl _,h⟩
 |term h hl ih=>exact⟨by omega,ih.2⟩
 |non hp hr hl ih1 ih2=>exact⟨by omega,ih2.2⟩
theorem Der.append {g:Gr} {w:List Int} {l m:List Sy} {a b c:Nat} (h:Der g w l a b) (k:Der g w m b c):Der g w (l++m) a c:=by
 induction h with
 |nil h=>exact k
 |term h hl ih=>exact .term h (ih k)
 |non hp hr hl ih1 ih2=>exact .non hp hr (ih2 k)
theorem Der.split {g:Gr} {w:List Int} {m:List Sy} {a c:Nat} {x:List Sy} (h:Der g w x a c):∀l:List Sy,x=l++m→∃b,Der g w l a b∧Der g w m b c:=by
 induction h with
 | @nil a h=>
   intro l e;obtain⟨e1,e2⟩:=List.append_eq_nil_iff.1 e.symm;subst e1;subst e2;exact⟨a,.nil h,.nil h⟩
 | @term t l0 a c h hl ih=>
   intro l e
   cases l with
   |nil=>simp at e;subst e;exact⟨a,.nil (by have:=hl.le;omega),.term h hl⟩
   |cons s l=>simp at e;obtain⟨rfl,e⟩:=e;obtain⟨b,h1,h2⟩:=ih l e;exact⟨b,.term h h1,h2⟩
 | @non p l0 a b c hp hr hl ih1 ih2=>
   intro l e
   cases l with
   |nil=>simp at e;subst e;exact⟨a,.nil (by have:=hr.le;have:=hl.le;omega),.non hp hr hl⟩
   |cons s l=>simp at e;obtain⟨rfl,e⟩:=e;obtain⟨b',h1,h2⟩:=ih2 l e;exact⟨b',.non hp hr h1,h2⟩
end Go.Av
