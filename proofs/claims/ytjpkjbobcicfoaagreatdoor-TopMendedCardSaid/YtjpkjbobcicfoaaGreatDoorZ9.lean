/-
  Texts Z8, Z9 of this work, one behind the other. Conditions: none.
-/
import Derived.Test.YtjpkjbobcicfoaaGreatDoorZ7
set_option linter.unusedSimpArgs false
set_option linter.unusedVariables false
namespace Go.Av
open Go.Proofs
set_option maxRecDepth 100000
def Ok (g:Gr) (w:List Int) (k2:Prop):List Sy→Nat→Prop
 |[],a=>a=w.length
 |s::l,a=>(k2∧a=w.length)∨(if s.non=true then (∃b,Der g w [s] a b∧Ok g w k2 l b)∨(k2∧Ovr g w s.n a) else w[a]?=some s.n∧Ok g w k2 l (a+1))
theorem aheadJ_bit {w:List Int} {rows:List (Nat→Nat)} {kind:Int} {s:Sy} {good a:Nat}:∀j,(aheadJ w rows kind s good j).testBit a=(decide (a<j) && isB w rows kind s good a)
 |0=>by simp[aheadJ]
 |j+1=>by
  have ih:=aheadJ_bit (w:=w) (rows:=rows) (kind:=kind) (s:=s) (good:=good) (a:=a) j;rw[aheadJ];by_cases e:a=j
  ·subst e;cases hb:isB w rows kind s good a
   ·rw[if_neg (by decide),ih];simp[hb]
   ·rw[if_pos rfl,Nat.testBit_or,Nat.testBit_two_pow];simp[hb]
  ·have e2:decide (a<j+1)=decide (a<j):=decide_eq_decide.2 (by omega);rw[e2,←ih];split
   ·rw[Nat.testBit_or,Nat.testBit_two_pow,decide_eq_false (show ¬j=a from fun h=>e h.symm),Bool.or_false]
   ·rfl
theorem and_bits {x y:Nat}:¬x &&& y=0↔∃b,x.testBit b=true∧y.testBit b=true:=by
 constructor
 ·intro h;obtain⟨b,hb⟩:=Nat.exists_testBit_of_ne_zero h;rw[Nat.testBit_and,Bool.and_eq_true] at hb;exact⟨b,hb⟩
 ·rintro ⟨b,h1,h2⟩ h
  have:(x &&& y).testBit b=true:=by rw[Nat.testBit_and,h1,h2];rfl
  rw[h,Nat.zero_testBit] at this;cases this
theorem shl_bit {x a b:Nat}:(x*2^a % 2^32).testBit b=(decide (b<32) && (decide (a≤b) && x.testBit (b - a))):=by
 rw[Nat.testBit_mod_two_pow,Nat.mul_comm,Nat.testBit_two_pow_mul]
section
variable {g:Gr} {w:List Int} {rows:List (Nat→Nat)} {kind:Int}
theorem row_der (hrc:RowsC g w rows) {a n c:Nat} (ha:a≤w.length) (hn:n<24):(rowAt rows a n).testBit c=true↔Der g w [⟨true,(n:Int)⟩] a (a+c):=by
 have h:=hrc.2 a (by rw[hrc.1];omega);rw[h.2.1 n hn c];constructor
 ·intro q;have:=q.up ha;rwa[Nat.add_zero] at this
 ·intro q;have:=q.down (x:=a) (Nat.le_refl _);rwa[Nat.sub_self,Nat.add_sub_cancel_left] at this
theorem row_ovr (hrc:RowsC g w rows) {a n:Nat} (ha:a≤w.length):(rowAt rows a 24).testBit n=true↔Ovr g w (n:Int) a:=by
 have h:=hrc.2 a (by rw[hrc.1];omega);rw[h.2.2 n];constructor
 ·intro q;have:=q.up ha;rwa[Nat.add_zero] at this
 ·intro q;have:=q.down (x:=a) (Nat.le_refl _);rwa[Nat.sub_self] at this
theorem ahead_ok (hrc:RowsC g w rows) (hw:w.length≤24) {s:Sy} (hs:s.non=true→0≤s.n∧s.n<24) {l:List Sy} {good:Nat} (hg:∀b,b≤w.length→(good.testBit b=true↔Ok g w (kind=2) l b)) {a:Nat} (ha:a≤w.length):
  (aheadN w rows kind s good).testBit a=true↔Ok g w (kind=2) (s::l) a:=by
 rw[aheadN,aheadJ_bit,hrc.1,decide_eq_true (show a<w.length+1 by omega),Bool.true_and,Ok,isB,Bool.or_eq_true,or_comm];refine or_congr (by simp) ?_;cases hn:s.non
 ·rw[if_neg (by decide),if_neg (by decide),Bool.and_eq_true,decide_eq_true_eq];refine and_congr_right fun q=>?_
  have:=(List.getElem?_eq_some_iff.1 q).1;exact hg (a+1) (by omega)
 ·rw[if_pos rfl,if_pos rfl,Bool.or_eq_true];obtain⟨h0,h24⟩:=hs hn;have hnn:((s.n.toNat:Nat):Int)=s.n:=by omega
  have hsy:s=⟨true,(s.n.toNat:Int)⟩:=by
   obtain⟨sn,m⟩:=s;have hn:sn=true:=hn;subst hn;rw[hnn]
  refine or_congr ?_ ?_
  ·rw[Bool.not_eq_true',decide_eq_false_iff_not,and_bits];constructor
   ·rintro ⟨b,q1,q2⟩
    rw[shl_bit,Bool.and_eq_true,Bool.and_eq_true,decide_eq_true_eq,decide_eq_true_eq] at q1;obtain⟨q3,q4,q5⟩:=q1;have hd:=(row_der hrc ha (by omega)).1 q5;rw[←hsy,show a+(b - a)=b by omega] at hd;exact⟨b,hd,(hg b hd.le.2).1 q2⟩
   ·rintro ⟨b,q1,q2⟩
    have hle:=q1.le;refine⟨b, ?_,(hg b hle.2).2 q2⟩;rw[shl_bit,Bool.and_eq_true,Bool.and_eq_true,decide_eq_true_eq,decide_eq_true_eq];refine⟨by omega,hle.1,(row_der hrc ha (by omega)).2 ?_⟩;rw[←hsy,show a+(b - a)=b by omega];exact q1
  ·rw[Bool.and_eq_true,decide_eq_true_eq];refine and_congr_right fun _=>?_
   rw[row_ovr hrc ha,hnn]
def ConsT (w:List Int) (rows:List (Nat→Nat)) (kind:Int):List Lt→Prop
 |[]=>True
 |x::T=>x.2=aheadN w rows kind x.1 (lastG w T)∧ConsT w rows kind T
theorem ConsT.lay {T:List Lt} (h:ConsT w rows kind T):∀r:List Sy,ConsT w rows kind (layL w rows kind T r)
 |[]=>h
 |s::r=>⟨rfl,ConsT.lay h r⟩
theorem lay_map {T:List Lt}:∀r:List Sy,(layL w rows kind T r).map (·.1)=r++T.map (·.1)
 |[]=>rfl
 |s::r=>by rw[lay_cons,List.map_cons,lay_map r];rfl
theorem good_ok (hrc:RowsC g w rows) (hw:w.length≤24):∀{T:List Lt} {a:Nat},ConsT w rows kind T→(∀x∈T,x.1.non=true→0≤x.1.n∧x.1.n<24)→a≤w.length→((lastG w T).testBit a=true↔Ok g w (kind=2) (T.map (·.1)) a)
 |[],a,_,_,_=>by
  show(2^w.length).testBit a=true↔a=w.length;rw[Nat.testBit_two_pow,decide_eq_true_eq];exact eq_comm
 |x::T,a,hc,hn,ha=>by
  show(x.2).testBit a=true↔Ok g w (kind=2) (x.1::T.map (·.1)) a;rw[hc.1];exact ahead_ok hrc hw (hn x (by simp)) (fun b hb=>good_ok hrc hw hc.2 (fun y hy=>hn y (by simp[hy])) hb) ha
theorem Ok.end {k2:Prop} (hk:k2):∀l:List Sy,Ok g w k2 l w.length
 |[]=>rfl
 |s::l=> .inl ⟨hk,rfl⟩
theorem Ok.app {k2:Prop} {r l:List Sy} {a b:Nat} (h:Der g w r a b):Ok g w k2 l b→Ok g w k2 (r++l) a:=by
 induction h with
 |nil h=>exact fun q=>q
 | @term t l' a c h hl ih=>
   intro q;exact .inr (by rw[if_neg Bool.false_ne_true];exact⟨h,ih q⟩)
 | @non p l' a b c hp hr hl ih1 ih2=>
   intro q;refine .inr ?_;rw[if_pos rfl];exact .inl ⟨b,.non hp hr (.nil (Nat.le_trans hl.le.1 hl.le.2)),ih2 q⟩
theorem der_non {n:Int} {a b:Nat} (h:Der g w [⟨true,n⟩] a b):∃p∈g.prods,p.left=n∧Der g w p.right a b:=by
 generalize he:([⟨true,n⟩]:List Sy)=l at h
 cases h with
 |nil h=>cases he
 |term h hl=>simp at he
 | @non p l a b c hp hrr hl=>
   simp only[List.cons.injEq,Sy.mk.injEq,true_and] at he;obtain⟨e1,e2⟩:=he;subst e2;exact⟨p,hp,e1.symm,by cases hl;exact hrr⟩
theorem cand_of {a:Nat} {n:Int} {p:Pr} (hp:p∈g.prods) (hl:p.left=n) (hk:¬(kind=2∧a=w.length)):∃c∈candL g w kind a n,rightOf g c=p.right∧∃i:Nat,c=i∧g.prods[i]?=some p:=by
 obtain⟨i,hi⟩:=List.getElem?_of_mem hp;have hm:(i:Int)∈prodsL g n:=prodsJ_mem.2 ⟨i,(List.getElem?_eq_some_iff.1 hi).1,rfl,p,hi,hl⟩;refine⟨i, ?_,by rw[rightOf,Int.toNat_natCast,hi];rfl,i,rfl,hi⟩;rw[candL,if_neg hk];split
 ·exact List.mem_reverse.2 hm
 ·exact hm
theorem Ok.next (hG:GoodG g) {n:Int} (h0:0≤n) (hn:n<g.nons) {l:List Sy} {a:Nat} (h:Ok g w (kind=2) (⟨true,n⟩::l) a):∃c∈candL g w kind a n,Ok g w (kind=2) (rightOf g c++l) a:=by
 by_cases hk:kind=2∧a=w.length
 ·obtain⟨i,hi,_⟩:=hG.fact n h0 hn;refine⟨_,by rw[candL,if_pos hk];exact List.mem_singleton.2 rfl, ?_⟩;rw[hk.2];exact Ok.end hk.1 _
 ·rcases h with h|h
  ·exact absurd h hk
  ·rw[if_pos rfl] at h;rcases h with ⟨b,h1,h2⟩|⟨h1,h2⟩
   ·obtain⟨p,hp,hl,hd⟩:=der_non h1;obtain⟨c,hc,hr,_⟩:=cand_of (w:=w) (kind:=kind) (a:=a) hp hl hk;exact⟨c,hc,by rw[hr];exact Ok.app hd h2⟩
   ·cases h2 with
    |eps hp ha=>exact absurd ⟨h1,ha⟩ hk
    | @all p l' m a hp hr hl hd=>
      obtain⟨c,hc,hr',_⟩:=cand_of (w:=w) (kind:=kind) (a:=a) hp rfl hk;refine⟨c,hc, ?_⟩;rw[hr',hr,List.append_assoc];exact Ok.app hd (Ok.end h1 _)
    | @non p l' m n' a b hp hr hd ho=>
      obtain⟨c,hc,hr',_⟩:=cand_of (w:=w) (kind:=kind) (a:=a) hp rfl hk;refine⟨c,hc, ?_⟩;rw[hr',hr,List.append_assoc];exact Ok.app hd (.inr (by rw[if_pos rfl];exact .inr ⟨h1,ho⟩))
theorem try_ex {T:List Lt} {a:Nat}:∀{cs:List Int} {c:Int},c∈cs→(lastG w (layL w rows kind T (rightOf g c))).testBit a=true→tryL g w rows kind T a cs≠none
 |d::cs,c,hc,hb=>by
  rw[try_cons];split
  ·simp
  ·rename_i hd
   rcases List.mem_cons.1 hc with rfl|hc
   ·exact absurd hb hd
   ·exact try_ex hc hb
end
end Go.Av
namespace Go.Av
open Go.Proofs
set_option maxRecDepth 100000
section
variable {g:Gr} {w:List Int} {rows:List (Nat→Nat)} {kind:Int}
theorem repF_term {l:List Int} {t:Int} {r:List Sy} {u:List Int}:repF g l (⟨false,t⟩::r) u=repF g l r (u++[t]):=by
 cases l<;>simp[repF,strip]
theorem repF_non {l:List Int} {x n:Int} {p:Pr} {r:List Sy} {u:List Int} (hp:okP g x n=some p):repF g (x::l) (⟨true,n⟩::r) u=repF g l (p.right++r) u:=by
 simp[repF,strip,hp]
theorem okP_of {i:Nat} {n:Int} {p:Pr} (hp:g.prods[i]?=some p) (hl:p.left=n):okP g i n=some p:=by
 rw[okP,if_pos (by omega),Int.toNat_natCast,hp];show(if p.left=n then some p else none)=some p;rw[if_pos hl]
theorem nt24 (hr:right g=true) {T:List Lt} (h:NtT g T):∀x∈T,x.1.non=true→0≤x.1.n∧x.1.n<24:=fun x hx hn=>by
 obtain⟨⟨_,hn2⟩,_⟩:=right_in hr;have:=h x hx hn;omega
theorem NtT.prod (hr:right g=true) {T:List Lt} (h:NtT g T) {p:Pr} (hp:p∈g.prods):NtT g (layL w rows kind T p.right):=by
 obtain⟨_,_,_,_,h5⟩:=right_in hr;refine h.lay _ fun s hs hn=>?_
 have:=(h5 p hp).2.2 s hs;rw[if_pos hn] at this;exact this
theorem run_step (hG:GoodG g) (hrc:RowsC g w rows) (hw:w.length≤24) {x:Lt} {T:List Lt} {a:Nat} (hc:ConsT w rows kind (x::T)) (hn:NtT g (x::T)) (ha:a≤w.length) (hx:x.1.non=true) (hok:Ok g w (kind=2) ((x::T).map (·.1)) a):
  ∃(i:Nat) (p:Pr),g.prods[i]?=some p∧p.left=x.1.n∧tryL g w rows kind T a (candL g w kind a x.1.n)=some ((i:Int),layL w rows kind T p.right)∧ConsT w rows kind (layL w rows kind T p.right)∧NtT g (layL w rows kind T p.right)∧Ok g w (kind=2) ((layL w rows kind T p.right).map (·.1)) a∧okP g i x.1.n=some p∧(layL w rows kind T p.right).map (·.1)=p.right++T.map (·.1):=by
 obtain⟨hx0,hx1⟩:=hn x (by simp) hx;have hn':NtT g T:=fun y hy=>hn y (by simp[hy])
 have hsy:x.1=⟨true,x.1.n⟩:=by
  obtain⟨⟨sn,m⟩,gd⟩:=x;have hx:sn=true:=hx;subst hx;rfl
 have hok':Ok g w (kind=2) (⟨true,x.1.n⟩::T.map (·.1)) a:=by rw[←hsy];exact hok
 obtain⟨c,hcm,hco⟩:=hok'.next hG hx0 hx1
 have key:∀c∈candL g w kind a x.1.n,∃(i:Nat) (p:Pr),c=i∧g.prods[i]?=some p∧p.left=x.1.n∧rightOf g c=p.right∧NtT g (layL w rows kind T p.right):=fun c hcm=>by
  obtain⟨i,rfl,_,p,hp,hl⟩:=hG.cand hx0 hx1 hcm;exact⟨i,p,rfl,hp,hl,by rw[rightOf,Int.toNat_natCast,hp];rfl,hn'.prod hG.right (List.mem_of_getElem? hp)⟩
 obtain⟨i,p,rfl,hp,hl,hro,hnt⟩:=key c hcm
 have hb:(lastG w (layL w rows kind T (rightOf g (i:Int)))).testBit a=true:=by
  rw[hro];refine(good_ok hrc hw (hc.2.lay _) (nt24 hG.right hnt) ha).2 ?_;rw[lay_map,←hro];exact hco
 cases ht:tryL g w rows kind T a (candL g w kind a x.1.n) with
 |none=>exact absurd ht (try_ex hcm hb)
 |some cL=>
  obtain⟨c,L⟩:=cL;obtain⟨t1,t2,t3⟩:=try_some ht;obtain⟨j,q,rfl,hq,hql,hqo,hqn⟩:=key c t1;rw[hqo] at t2;subst t2;refine⟨j,q,hq,hql,rfl,hc.2.lay _,hqn,(good_ok hrc hw (hc.2.lay _) (nt24 hG.right hqn) ha).1 t3,okP_of hq hql,lay_map _⟩
theorem drop_at {α:Type} {w:List α} {a:Nat} {t:α} (h:w[a]?=some t):w.drop a=t::w.drop (a+1):=by
 obtain⟨ha,he⟩:=List.getElem?_eq_some_iff.1 h;rw[List.drop_eq_getElem_cons ha,he]
theorem run_spec (hG:GoodG g) (hrc:RowsC g w rows) (hw:w.length≤24):∀(k:Nat) (T:List Lt) (a:Nat) (out:List Int),muT T out<k→out.length≤2000→ConsT w rows kind T→NtT g T→a≤w.length→Ok g w (kind=2) (T.map (·.1)) a→
  (runL g w rows kind k T a out).1=5∨((runL g w rows kind k T a out).1=0∧∃l v t,(runL g w rows kind k T a out).2=out++l∧(∀u,repF g l (T.map (·.1)) u=(0,u++v))∧v=w.drop a++t∧(kind≠2→t=[]))
 |0,_,_,_,hk,_,_,_,_,_=>by omega
 |k+1,[],a,out,hk,ho,hc,hn,ha,hok=>by
  have hok:a=w.length:=hok;refine .inr ⟨rfl,[],[],[],by rw[List.append_nil];rfl,fun u=>by rw[List.append_nil];rfl, ?_,fun _=>rfl⟩;rw[hok,List.drop_length];rfl
 |k+1,x::T,a,out,hk,ho,hc,hn,ha,hok=>by
  have hn':NtT g T:=fun y hy=>hn y (by simp[hy])
  cases hx:x.1.non
  ·rw[run_term hx]
   have hsy:x.1=⟨false,x.1.n⟩:=by
    obtain⟨⟨sn,m⟩,gd⟩:=x;have hx:sn=false:=hx;subst hx;rfl
   have hmu:muT T out<k:=by rw[muT,List.length_cons] at hk;rw[muT];omega
   have hstep:Ok g w (kind=2) (T.map (·.1)) (min (a+1) w.length)∧((kind=2∧a=w.length)∨w[a]?=some x.1.n):=by
    rcases hok with ⟨h1,h2⟩|h
    ·rw[h2,Nat.min_eq_right (by omega)];exact⟨Ok.end h1 _,.inl ⟨h1,rfl⟩⟩
    ·rw[hx,if_neg Bool.false_ne_true] at h;have:=(List.getElem?_eq_some_iff.1 h.1).1;rw[Nat.min_eq_left (by omega)];exact⟨h.2,.inr h.1⟩
   rcases run_spec hG hrc hw k T (min (a+1) w.length) out hmu ho hc.2 hn' (Nat.min_le_right _ _) hstep.1 with h|⟨h1,l,v,t,h2,h3,h4,h5⟩
   ·exact .inl h
   ·refine .inr ⟨h1,l,x.1.n::v, ?_⟩
    have h6:∀u,repF g l ((x::T).map (·.1)) u=(0,u++x.1.n::v):=fun u=>by
     rw[List.map_cons,hsy,repF_term,h3,List.append_assoc];rfl
    rcases hstep.2 with ⟨q1,q2⟩|q
    ·refine⟨x.1.n::v,h2,h6, ?_,fun e=>absurd q1 e⟩;rw[q2,List.drop_length];rfl
    ·refine⟨t,h2,h6, ?_,h5⟩;have:=(List.getElem?_eq_some_iff.1 q).1;rw[h4,Nat.min_eq_left (by omega),drop_at q];rfl
  ·by_cases hb:out.length=2000
   ·rw[run_big hx hb];exact .inl rfl
   ·obtain⟨i,p,hp,hl,ht,hc2,hn2,hok2,hpo,hm⟩:=run_step hG hrc hw hc hn ha hx hok;rw[run_some hx hb ht];obtain⟨_,_,_,_,h5⟩:=right_in hG.right;have h8:=(h5 p (List.mem_of_getElem? hp)).2.1
    have hmu:muT (layL w rows kind T p.right) (out++[(i:Int)])<k:=by
     rw[muT,List.length_cons] at hk;rw[muT,lay_len,List.length_append,List.length_singleton];omega
    rcases run_spec hG hrc hw k _ a (out++[(i:Int)]) hmu (by rw[List.length_append,List.length_singleton];omega) hc2 hn2 ha hok2 with h|⟨h1,l,v,t,h2,h3,h4,h5⟩
    ·exact .inl h
    ·refine .inr ⟨h1,(i:Int)::l,v,t,by rw[h2,List.append_assoc];rfl,fun u=>?_,h4,h5⟩
     have hsy:x.1=⟨true,x.1.n⟩:=by
      obtain⟨⟨sn,m⟩,gd⟩:=x;have hx:sn=true:=hx;subst hx;rfl
     rw[List.map_cons,hsy,repF_non hpo,←hm];exact h3 u
end
end Go.Av
namespace Go.Av
open Go.Proofs
set_option maxRecDepth 100000
section
variable {g:Gr} {w:List Int} {rows:List (Nat→Nat)} {kind:Int}
theorem start_ok (hG:GoodG g) (hrc:RowsC g w rows) (hw:w.length≤24):(goodS g w kind rows).testBit 0=true↔Ok g w (kind=2) [⟨true,g.start⟩] 0:=by
 obtain⟨⟨hn1,hn2⟩,_,⟨hs1,hs2⟩,_⟩:=right_in hG.right;refine ahead_ok hrc hw (fun _=>⟨hs1,(by omega:g.start<24)⟩) (fun b hb=>?_) (Nat.zero_le _);rw[Nat.testBit_two_pow,decide_eq_true_eq];exact eq_comm
theorem by_no (h:¬(goodS g w kind rows).testBit 0=true):byL g w kind rows=(11,[]):=by rw[byL,if_neg h]
theorem by_yes (h:(goodS g w kind rows).testBit 0=true):byL g w kind rows=runL g w rows kind 18002 [(⟨true,g.start⟩,goodS g w kind rows)] 0 []:=by rw[byL,if_pos h]
theorem start_T (hG:GoodG g):ConsT w rows kind [(⟨true,g.start⟩,goodS g w kind rows)]∧NtT g [((⟨true,g.start⟩,goodS g w kind rows):Lt)]:=by
 obtain⟨_,_,⟨hs1,hs2⟩,_⟩:=right_in hG.right;exact⟨⟨rfl,trivial⟩,fun y hy=>by rw[List.mem_singleton.1 hy];exact fun _=>⟨hs1,hs2⟩⟩
theorem by_spec (hG:GoodG g) (hrc:RowsC g w rows) (hw:w.length≤24) (h:Ok g w (kind=2) [⟨true,g.start⟩] 0):
  (byL g w kind rows).1=5∨((byL g w kind rows).1=0∧∃t,repF g (byL g w kind rows).2 [⟨true,g.start⟩] []=(0,w++t)∧(kind≠2→t=[])):=by
 rw[by_yes ((start_ok hG hrc hw).2 h)];rcases run_spec hG hrc hw 18002 _ 0 [] (by show 2000*9+1<18002;decide) (Nat.zero_le _) (start_T hG).1 (start_T hG).2 (Nat.zero_le _) h with h|⟨h1,l,v,t,h2,h3,h4,h5⟩
 ·exact .inl h
 ·refine .inr ⟨h1,t, ?_,h5⟩;have h3:repF g l [⟨true,g.start⟩] []=(0,[]++v):=h3 [];rw[List.nil_append,h4,List.drop_zero] at h3;rw[h2];exact h3
end
end Go.Av
namespace Go.Av
open Go.Proofs
set_option maxRecDepth 100000
end Go.Av
namespace Go.Av
open Go.Proofs
set_option maxRecDepth 100000
theorem run_len {g:Gr} {w:List Int} {rows:List (Nat→Nat)} {kind:Int}:∀(k:Nat) (T:List Lt) (a:Nat) (out:List Int),out.length≤2000→(runL g w rows kind k T a out).2.length≤2000
 |0,_,_,_,_=>Nat.zero_le _
 |_+1,[],_,_,h=>h
 |k+1,x::T,a,out,h=>by
  cases hx:x.1.non
  ·rw[run_term hx];exact run_len k _ _ _ h
  ·by_cases ho:out.length=2000
   ·rw[run_big hx ho];exact Nat.zero_le _
   ·cases ht:tryL g w rows kind T a (candL g w kind a x.1.n) with
    |none=>rw[run_none hx ho ht];exact Nat.zero_le _
    |some cL=>
     obtain⟨c,L⟩:=cL;rw[run_some hx ho ht];exact run_len k _ _ _ (by rw[List.length_append,List.length_singleton];omega)
theorem by_len {g:Gr} {w:List Int} {kind:Int} {l:List (Nat→Nat)}:(byL g w kind l).2.length≤2000:=by
 unfold byL;split
 ·exact run_len _ _ _ _ (Nat.zero_le _)
 ·exact Nat.zero_le _
end Go.Av
