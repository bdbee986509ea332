/-
  What the evaluator says is so in the model. Conditions: none.
-/
import Derived.Test.YtjpkjbobcicfoaaGreatDoorAG
set_option linter.unusedSimpArgs false
set_option linter.unusedVariables false
namespace Go.Av
section
variable {P:Program} {E:Sur} {O:Ops} {N:Nat} {ops:Array Oper} {n0 i:Nat}
noncomputable def EvS.os (σ:EvS):OS:=⟨frT σ.t,hpT σ.h,σ.x⟩
theorem fin_ok {o:Oper} {σ σ':EvS} {c f:Cls} {v:AV} {u:Upd} {k:Mk} (h:fin o σ c f v u=some (k,σ')):σ'.os=⟨put (frT σ.t) o.dst v,upds (hpT σ.h) u,σ.x⟩∧k=⟨c,f,σ.h,σ'.h⟩:=by
 unfold fin at h;split at h
 ·rename_i T H h1 h2
  simp only[Option.some.injEq,Prod.mk.injEq] at h;obtain⟨rfl,rfl⟩:=h;exact⟨by simp only[EvS.os,putT_ok h1,updT_ok h2],rfl⟩
 ·cases h
theorem finW_ok {o:Oper} {σ σ':EvS} {r:AV} {H:Tr AO} {x:Nat} {k:Mk} (h:finW o σ r H x=some (k,σ')):σ'.os=⟨put (frT σ.t) o.dst r,hpT H,x⟩∧k=⟨.W,.W,σ.h,σ'.h⟩:=by
 unfold finW at h;split at h
 ·rename_i T h1
  simp only[Option.some.injEq,Prod.mk.injEq] at h;obtain⟨rfl,rfl⟩:=h;exact⟨by simp only[EvS.os,putT_ok h1],rfl⟩
 ·cases h
theorem setPT_ok:∀(ps:List Nat) (as:List AV) (T T':Tr AV),setPT T ps as=some T'→frT T'=setPs (frT T) ps as
 |[],as,T,T',h=>by
  cases as<;>(simp only[setPT,Option.some.injEq] at h;subst h;rfl)
 |p::ps,[],T,T',h=>by simp only[setPT,Option.some.injEq] at h;subst h;rfl
 |p::ps,a::as,T,T',h=>by
  unfold setPT at h;split at h
  ·rename_i T1 h1
   rw[setPT_ok ps as T1 T' h,putT_ok h1];rfl
  ·cases h
theorem setPs_mono:∀(ps:List Nat) (as:List AV) (t t1:Fr),(∀x,t1 x=t x∨t1 x=.any)→∀x,setPs t1 ps as x=setPs t ps as x∨setPs t1 ps as x=.any
 |[],as,t,t1,h,x=>by cases as<;>exact h x
 |p::ps,[],t,t1,h,x=>h x
 |p::ps,a::as,t,t1,h,x=>by
  refine setPs_mono ps as (put t (some p) a) (put t1 (some p) a) (fun y=>?_) x;unfold put;by_cases hy:y=p
  ·simp[hy]
  ·simpa[hy] using h y
theorem frT_ofFn (d:Nat) (f:Nat→AV) (x:Nat):frT (Tr.ofFn d f) x=f x∨frT (Tr.ofFn d f) x=.any:=by
 unfold frT;rcases Tr.get_ofFn d f x with h|h<;>rw[h]
 ·exact .inl rfl
 ·exact .inr rfl
def MkOK (P:Program) (N:Nat) (ops:Array Oper) (n0 i:Nat) (σ:EvS) (k:Mk) (σ':EvS):Prop:=
 OpS P N ops n0 i σ.os k.c σ'.os∧OpS P N ops n0 i σ.os k.f σ'.os∧k.h=σ.h∧k.h'=σ'.h
theorem mk_same {σ σ':EvS} {c:Cls} {k:Mk} (h:OpS P N ops n0 i σ.os c σ'.os) (hk:k=⟨c,c,σ.h,σ'.h⟩):MkOK P N ops n0 i σ k σ':=by
 subst hk;exact⟨h,h,rfl,rfl⟩
theorem fine_ok (hE:E.OK P) {o:Oper} {σ σ':EvS} {c:Cls} {v:AV} {u:Upd} (ho:ops[i]?=some o) (hg:gd ops (frT σ.t) o=some true) (hd:inN N o.dst=true)
  (hs:σ'.os=⟨put (frT σ.t) o.dst v,upds (hpT σ.h) u,σ.x⟩) (hc:OpS P N ops n0 i σ.os c σ'.os):OpS P N ops n0 i σ.os (fineOf E o.op (frT σ.t) (hpT σ.h) (n0+i) c v u) σ'.os:=by
 unfold fineOf;split
 ·rename_i ty z hop
  split
  ·rename_i ti b j off hti hz
   split
   ·rename_i cs hq
    split
    ·rename_i v' hv
     split
     ·rename_i hb
      have:=AV.beq_eq _ _ hb;subst this;rw[hs];exact op_loadR hE.tab ho hg hd hop hti hz hq hv
     ·exact hc
    ·exact hc
   ·exact hc
  ·exact hc
 ·rename_i ty z y ok hop
  split
  ·rename_i ti b k hti hz hy
   split
   ·rename_i keq vz hk
    split
    ·rename_i cs hq
     split
     ·rename_i v' hv
      split
      ·rename_i hb
       simp only[Bool.and_eq_true] at hb;have:=AV.beq_eq _ _ hb.2;subst this;rw[hs];exact op_lookupR hE.tab ho hg hd hop hti hk hz hy hb.1 hq hv
      ·exact hc
     ·exact hc
    ·exact hc
   ·exact hc
  ·exact hc
 ·rename_i ty z hop
  split
  ·rename_i a1 b b' e hz
   split
   ·rename_i cs hcs
    split
    ·rename_i hb
     simp only[Bool.and_eq_true,Nat.beq_eq] at hb;obtain⟨⟨⟨rfl,rfl⟩,h3⟩,h4⟩:=hb;have:=AV.beqs_eq _ _ h3;subst this;rw[hs];exact op_boxN ho hg hd hop hz hcs h4
    ·exact hc
   ·exact hc
  ·exact hc
 ·rename_i ty hop
  split
  ·rename_i ti b b' e hti
   split
   ·rename_i hb
    simp only[Bool.and_eq_true,Nat.beq_eq] at hb;obtain⟨⟨⟨rfl,rfl⟩,h3⟩,h4⟩:=hb;have:=AV.beqs_eq _ _ h3;subst this;rw[hs];exact op_allocN hE.tab ho hg hd hop hti h4
   ·exact hc
  ·exact hc
 ·exact hc
theorem doPlain_ok (hE:E.OK P) {o:Oper} {σ σ':EvS} {k:Mk} (ho:ops[i]?=some o) (hg:gd ops (frT σ.t) o=some true) (hd:inN N o.dst=true) (h:doPlain E n0 i o σ=some (k,σ')):MkOK P N ops n0 i σ k σ':=by
 unfold doPlain at h;split at h
 ·rename_i c v u hop
  obtain⟨h1,h2⟩:=fin_ok h;have hc:OpS P N ops n0 i σ.os c σ'.os:=by rw[h1];exact op_plain hE.tab ho hg hd hop
  subst h2;exact⟨hc,fine_ok hE ho hg hd h1 hc,rfl,rfl⟩
 ·split at h
  ·rename_i src dst z hop
   split at h
   ·rename_i a1 ti ti2 hz h1 h2
    split at h
    ·rename_i e he
     split at h
     ·rename_i ti3 h3
      split at h
      ·rename_i hk
       obtain⟨q1,q2⟩:=fin_ok h;refine mk_same ?_ q2;rw[q1];exact op_bytes hE.tab ho hg hd hop hz h1 h2 he h3 hk
      ·cases h
     ·cases h
    ·cases h
   ·cases h
  ·cases h
theorem doRound_ok (hO:O.OK P) {o:Oper} {cl:Call} {f:Operand} {σ σ':EvS} {k:Mk} {b:Nat} {as:List AV} (ho:ops[i]?=some o) (hg:gd ops (frT σ.t) o=some true) (hd:inN N o.dst=true) (hop:o.op=.call cl) (hc:cl.callee=.value f)
  (hf:ev (frT σ.t) f=some (.yl b)) (ha:evs (frT σ.t) cl.args.toList=some as) (h:doRound O o σ b as=some (k,σ')):MkOK P N ops n0 i σ k σ':=by
 unfold doRound at h;split at h
 ·rename_i M ps assign body t0 j0 hb
  split at h
  ·rename_i hcond
   split at h
   ·rename_i T0 hT0
    split at h
    ·rename_i s1 hs1
     split at h
     ·rename_i M1 ps1 as1 bd1 tt1 j1 hb1
      split at h
      ·rename_i H1 hH1
       split at h
       ·rename_i e s2 hs2
        split at h
        ·rename_i M2 ps2 as2 bd2 tt2 st2 j2 hb2
         split at h
         ·rename_i H2 hH2
          obtain⟨q1,q2⟩:=finW_ok h;refine mk_same ?_ q2;rw[q1,set_ok hH2];have hc1:=hO.code _ _ _ _ _ hs1;have hc2:=hO.code _ _ _ _ _ hs2;simp only[set_ok hH1] at hc2
          have hc1':CodeS P M assign (setPs t0 ps as) (hpT σ.h) σ.x .normal (frT s1.t) (hpT s1.h) s1.x:=by
           refine snd_forget ?_ (fun b=> .inl rfl) hc1;simp only[setPT_ok _ _ _ _ hT0];exact setPs_mono ps as t0 _ (frT_ofFn 9 t0)
          exact op_callY ho hg hd hop hc hf ha hb hcond.1 (fun p hp=>by simpa using List.all_eq_true.1 hcond.2 p hp) hc1' hb1 hc2 hb2
         ·cases h
        ·cases h
       ·cases h
      ·cases h
     ·cases h
    ·cases h
   ·cases h
  ·cases h
 ·cases h
theorem doCall_ok (hE:E.OK P) (hO:O.OK P) {o:Oper} {cl:Call} {f:Operand} {σ σ':EvS} {k:Mk} (ho:ops[i]?=some o) (hg:gd ops (frT σ.t) o=some true) (hd:inN N o.dst=true) (hop:o.op=.call cl) (hc:cl.callee=.value f)
  (h:doCall E O n0 i o σ (ev (frT σ.t) f) (evs (frT σ.t) cl.args.toList)=some (k,σ')):MkOK P N ops n0 i σ k σ':=by
 generalize hf:ev (frT σ.t) f=fv at h;generalize ha:evs (frT σ.t) cl.args.toList=asv at h;unfold doCall at h;split at h
 ·rename_i g caps as
  split at h
  ·rename_i xk hxk
   split at h
   ·rename_i c v u hx
    obtain⟨q1,q2⟩:=fin_ok h;refine mk_same ?_ q2;rw[q1];exact op_ext (hE.xk _ _ hxk) ho hg hd hop hc hf ha hx
   ·cases h
  ·split at h
   ·rename_i r hr
    obtain⟨q1,q2⟩:=fin_ok h;refine mk_same ?_ q2;rw[q1];split at hr
    ·cases hr
    ·rename_i l hl
     split at hr
     ·rename_i as' has'
      obtain⟨r0,h1,x1,d,hF,hrf⟩:=hE.kn _ _ _ (findK_ok hr);exact op_callP (live:=true) ho hg hd hop hc hf ha has' hF hrf
     ·cases hr
   ·split at h
    ·rename_i r H x hcall
     obtain⟨q1,q2⟩:=finW_ok h;refine mk_same ?_ q2;rw[q1];exact op_callH ho hg hd hop hc hf ha (hO.call _ _ _ _ _ _ _ hcall)
    ·cases h
 ·rename_i g first as
  split at h
  ·rename_i r H x hcall
   obtain⟨q1,q2⟩:=finW_ok h;refine mk_same ?_ q2;rw[q1];exact op_callB ho hg hd hop hc hf ha (hO.call _ _ _ _ _ _ _ hcall)
  ·cases h
 ·exact doRound_ok hO ho hg hd hop hc hf ha h
 ·cases h
theorem doOp_ok (hE:E.OK P) (hO:O.OK P) {o:Oper} {σ σ':EvS} {k:Mk} (ho:ops[i]?=some o) (h:doOp E O N ops n0 i o σ=some (k,σ')):MkOK P N ops n0 i σ k σ':=by
 unfold doOp at h;split at h
 ·rename_i hd
  split at h
  ·rename_i hg
   obtain⟨q1,q2⟩:=fin_ok h;refine mk_same ?_ q2;rw[q1];exact op_skip ho hg hd
  ·rename_i hg
   split at h
   ·rename_i cl hop
    split at h
    ·rename_i f hc
     exact doCall_ok hE hO ho hg hd hop hc h
    ·exact doPlain_ok hE ho hg hd h
   ·exact doPlain_ok hE ho hg hd h
  ·cases h
 ·cases h
theorem sameQ_ok {a b:Option (List AV)} (h:sameQ a b=true):a=b:=by
 unfold sameQ at h;split at h
 ·rfl
 ·rw[AV.beqs_eq _ _ h]
 ·cases h
theorem sameO_ok {a b:Option AO} (h:sameO a b=true):a=b:=by
 unfold sameO at h;split at h
 ·rfl
 ·rw[AV.beqss_eq _ _ h]
 ·cases h
theorem kOf_ok {σ σ':EvS} {k:Mk} (qs:List (Nat×Query)) (ns:List Nat) (h:MkOK P N ops n0 i σ k σ'):OpS P N ops n0 i σ.os (kOf qs ns k) σ'.os:=by
 obtain⟨_,h2,h3,h4⟩:=h;unfold kOf;split
 ·rename_i hW
  rw[hW] at h2;refine op_K h2 (fun x hx=>?_) fun b hb=>?_
  ·have:=(List.mem_filter.1 hx).2;have:=sameQ_ok this;rw[h3,h4] at this;exact this
  ·have:=(List.mem_filter.1 hb).2;have:=sameO_ok this;rw[h3,h4] at this;exact this
 ·exact h2
theorem doOps_ok (hE:E.OK P) (hO:O.OK P):∀(l:List Oper) (i:Nat) (σ σ':EvS) (ks:List Mk),ops.toList.drop i=l→doOps E O N ops n0 l i σ=some (ks,σ')→
  OpsS P N ops n0 (List.range' i l.length) σ.os (ks.map (·.c)) σ'.os∧∀qs ns,OpsS P N ops n0 (List.range' i l.length) σ.os (ks.map (kOf qs ns)) σ'.os
 |[],i,σ,σ',ks,_,h=>by
  simp only[doOps,Option.some.injEq,Prod.mk.injEq] at h;obtain⟨rfl,rfl⟩:=h;exact⟨rfl,fun _ _=>rfl⟩
 |o::l,i,σ,σ',ks,hd,h=>by
  unfold doOps at h;split at h
  ·rename_i k σ1 h1
   split at h
   ·rename_i ks' σ2 h2
    simp only[Option.some.injEq,Prod.mk.injEq] at h;obtain⟨rfl,rfl⟩:=h
    have ho:ops[i]?=some o:=by
     have:=congrArg (fun l=>l[0]?) hd;simpa using this
    have hk:=doOp_ok hE hO ho h1;have hd':ops.toList.drop (i+1)=l:=by rw[←List.drop_drop,hd];rfl
    obtain⟨r1,r2⟩:=doOps_ok hE hO l (i+1) σ1 σ2 ks' hd' h2;rw[List.length_cons,List.range'_succ];exact⟨⟨_,hk.1,r1⟩,fun qs ns=>⟨_,kOf_ok qs ns hk,r2 qs ns⟩⟩
   ·cases h
  ·cases h
theorem doRegion_ok (hE:E.OK P) (hO:O.OK P) {id:Nat} {draw:Bool} {σ σ':EvS} (h:doRegion E O N ops draw σ=some σ'):CodeS P N (.region id ops draw) (frT σ.t) (hpT σ.h) σ.x .normal (frT σ'.t) (hpT σ'.h) σ'.x:=by
 unfold doRegion at h;split at h
 ·rename_i ks s hks
  obtain⟨r1,r2⟩:=doOps_ok (ops:=ops) hE hO ops.toList 0 _ _ _ rfl hks;have hlen:ops.toList.length=ops.size:=by simp
  have hos:(⟨σ.t,σ.h,σ.x+ops.toList.length⟩:EvS).os=⟨frT σ.t,hpT σ.h,σ.x+ops.size⟩:=by rw[hlen];rfl
  rw[hos,hlen,←List.range_eq_range'] at r1
  have r2':∀qs ns,OpsS P N ops σ.x (List.range ops.size) ⟨frT σ.t,hpT σ.h,σ.x+ops.size⟩ (ks.map (kOf qs ns)) s.os:=fun qs ns=>by
   have:=r2 qs ns;rw[hos,hlen,←List.range_eq_range'] at this;exact this
  split at h
  ·rename_i hdraw
   subst hdraw;split at h
   ·rename_i hok
    simp only[Option.some.injEq] at h;subst h;exact⟨region_abs r1,fun w S F m a hp ro=>region_draw hE.mixed r1 hok hp ro,fun body hc=>by cases hc⟩
   ·split at h
    ·rename_i hok
     simp only[Option.some.injEq] at h;subst h;exact⟨region_abs (r2' (qsOf ks) (nsOf ks)),fun w S F m a hp ro=>region_draw hE.mixed (r2' _ _) hok hp ro,fun body hc=>by cases hc⟩
    ·cases h
  ·rename_i hdraw
   simp only[Option.some.injEq] at h;subst h;have:draw=false:=by simpa using hdraw
   subst this;exact⟨region_abs r1,fun w S F m a hp ro=>region_seq r1 hp ro,fun body hc=>by cases hc⟩
 ·cases h
theorem code_refl {c:Code} {t:Fr} {h:Heap} {n:Nat} {e:AEx} (hc:∀body,c≠.loop body) (hw:∀(w:World) (S F:Nat→Prop) (m:Pm) (a:Act) (ro:Option Nat) (Q:Exit→Act→World→Prop),(∀ex,ExR e ex→Q ex a w)→c.wpIn (wd ro) 0 P Q a w):CodeS P N c t h n e t h n:=
 ⟨AbsS.refl _ _,fun w S F m a hp ro=>hw w S F m a ro _ fun ex hx=>⟨hx,S,m,St.rfl hp.2.2.2,hp.2.2.1,hp.2.1,rfl⟩,fun body hb=>absurd hb (hc body)⟩
theorem evJ_ok (hE:E.OK P) (hO:O.OK P):∀(k:Nat) (bo:Option Code) (c:Code) (σ:EvS) (e:AEx) (σ':EvS),evJ E O N k bo c σ=some (e,σ')→
  match bo with
  |none=>CodeS P N c (frT σ.t) (hpT σ.h) σ.x e (frT σ'.t) (hpT σ'.h) σ'.x
  |some body=>ScpS P N body c (frT σ.t) (hpT σ.h) σ.x e (frT σ'.t) (hpT σ'.h) σ'.x
 |0,_,_,_,_,_,h=>by simp[evJ] at h
 |k+1,some body,c,σ,e,σ',h=>by
  unfold evJ at h;split at h
  ·rename_i l s hs
   have h1:=evJ_ok hE hO k none c σ _ _ hs;split at h
   ·rename_i rest hf
    exact snd_scpG h1 hf (evJ_ok hE hO k (some body) rest s e σ' h)
   ·cases h
  ·rename_i r hne
   have h1:=evJ_ok hE hO k none c σ _ _ h;refine snd_scpD (fun l hl=>?_) h1;subst hl;exact hne l σ' h
 |k+1,none,c,σ,e,σ',h=>by
  unfold evJ at h;split at h
  ·simp only[Option.some.injEq,Prod.mk.injEq] at h;obtain⟨rfl,rfl⟩:=h;exact code_refl (fun _=>by simp) fun w S F m a ro Q hQ=>wpIn_skip (hQ .normal trivial)
  ·simp only[Option.some.injEq,Prod.mk.injEq] at h;obtain⟨rfl,rfl⟩:=h;exact code_refl (fun _=>by simp) fun w S F m a ro Q hQ=>wpIn_label (hQ .normal trivial)
  ·simp only[Option.some.injEq,Prod.mk.injEq] at h;obtain⟨rfl,rfl⟩:=h;exact code_refl (fun _=>by simp) fun w S F m a ro Q hQ=>wpIn_exit (hQ (.exit _) rfl)
  ·simp only[Option.some.injEq,Prod.mk.injEq] at h;obtain⟨rfl,rfl⟩:=h;exact code_refl (fun _=>by simp) fun w S F m a ro Q hQ=>wpIn_goto (hQ (.goto _) rfl)
  ·simp only[Option.some.injEq,Prod.mk.injEq] at h;obtain⟨rfl,rfl⟩:=h;exact code_refl (fun _=>by simp) fun w S F m a ro Q hQ=>wpIn_ret (hQ .ret trivial)
  ·split at h
   ·rename_i s hs
    simp only[Option.some.injEq,Prod.mk.injEq] at h;obtain⟨rfl,rfl⟩:=h;exact doRegion_ok hE hO hs
   ·cases h
  ·rename_i a b
   split at h
   ·rename_i s hs
    exact snd_seq (evJ_ok hE hO k none a σ _ _ hs) (evJ_ok hE hO k none b s _ _ h)
   ·rename_i r hne
    refine snd_seqx (fun he=>?_) (evJ_ok hE hO k none a σ _ _ h);subst he;exact hne σ' h
  ·rename_i c a b
   split at h
   ·rename_i hc
    have ih:=evJ_ok hE hO k none a σ _ _ h;exact⟨ih.1,fun w S F m a hp ro=>wpIn_cond_true (ev_bool hp.2.1.glob hp.2.2.1 hc) (ih.2.1 w S F m a hp ro),fun body hc=>by cases hc⟩
   ·rename_i hc
    have ih:=evJ_ok hE hO k none b σ _ _ h;exact⟨ih.1,fun w S F m a hp ro=>wpIn_cond_false (ev_bool hp.2.1.glob hp.2.2.1 hc) (ih.2.1 w S F m a hp ro),fun body hc=>by cases hc⟩
   ·cases h
  ·rename_i id c
   split at h
   ·rename_i j s hs
    have ih:=evJ_ok hE hO k none c σ _ _ hs;split at h
    ·rename_i hj
     simp only[Option.some.injEq,Prod.mk.injEq] at h;obtain⟨rfl,rfl⟩:=h;have:j=id:=by simpa using hj
     subst this;exact snd_block (.inr (.inl ⟨rfl,rfl⟩)) ih
    ·rename_i hj
     simp only[Option.some.injEq,Prod.mk.injEq] at h;obtain⟨rfl,rfl⟩:=h;refine snd_block (.inr (.inr ⟨fun he=>?_,rfl⟩)) ih;simp only[AEx.exit.injEq] at he;subst he;simp at hj
   ·rename_i r hne
    have ih:=evJ_ok hE hO k none c σ _ _ h;refine snd_block (.inr (.inr ⟨fun he=>?_,rfl⟩)) ih;subst he;exact hne id σ' h
  ·rename_i c
   split at h
   ·rename_i s hs
    exact snd_loop (evJ_ok hE hO k none c σ _ _ hs) (evJ_ok hE hO k none (.loop c) s _ _ h)
   ·rename_i r hne
    refine snd_loopE (fun he=>?_) (evJ_ok hE hO k none c σ _ _ h);subst he;exact hne σ' h
  ·rename_i c
   exact snd_scope (evJ_ok hE hO k (some c) c σ _ _ h)
  ·cases h
theorem sd_forget {c:Code} {t t1 t':Fr} {h h':Heap} {n n':Nat} {e:AEx} (ht:∀x,t1 x=t x∨t1 x=.any) (ha:CodeD P N c t1 h n e t' h' n'):CodeD P N c t h n e t' h' n':=
 ⟨ha.1,fun w S F m a hp=>ha.2 w S F m a ⟨hp.1,hp.2.1,⟨hp.2.2.1.1,fun x=>(ht x).elim (fun h=>h▸hp.2.2.1.2 x) (fun h=>h▸.any _)⟩,hp.2.2.2⟩⟩
theorem evD_ok (hE:E.OK P) (hO:O.OK P) {fuel:Nat}:∀(k:Nat) (c:Code) (σ:EvS) (e:AEx) (σ':EvS),evD E O N fuel k c σ=some (e,σ')→CodeD P N c (frT σ.t) (hpT σ.h) σ.x e (frT σ'.t) (hpT σ'.h) σ'.x
 |0,_,_,_,_,h=>by simp[evD] at h
 |k+1,c,σ,e,σ',h=>by
  unfold evD at h;split at h
  ·rename_i a b
   split at h
   ·split at h
    ·rename_i s hs
     exact sd_seqR (evD_ok hE hO k a σ _ _ hs) (evJ_ok hE hO fuel none b s _ _ h)
    ·rename_i r hne
     refine sd_seqx (fun he=>?_) (evD_ok hE hO k a σ _ _ h);subst he;exact hne σ' h
   ·split at h
    ·rename_i s hs
     exact sd_seqL (evJ_ok hE hO fuel none a σ _ _ hs) (evD_ok hE hO k b s _ _ h)
    ·cases h
  ·rename_i id c
   split at h
   ·rename_i j s hs
    have ih:=evD_ok hE hO k c σ _ _ hs;split at h
    ·rename_i hj
     simp only[Option.some.injEq,Prod.mk.injEq] at h;obtain⟨rfl,rfl⟩:=h;have:j=id:=by simpa using hj
     subst this;exact sd_block (.inr (.inl ⟨rfl,rfl⟩)) ih
    ·rename_i hj
     simp only[Option.some.injEq,Prod.mk.injEq] at h;obtain⟨rfl,rfl⟩:=h;refine sd_block (.inr (.inr ⟨fun he=>?_,rfl⟩)) ih;simp only[AEx.exit.injEq] at he;subst he;simp at hj
   ·rename_i r hne
    have ih:=evD_ok hE hO k c σ _ _ h;refine sd_block (.inr (.inr ⟨fun he=>?_,rfl⟩)) ih;subst he;exact hne id σ' h
  ·rename_i g ps assign body
   split at h
   ·rename_i kf caps hg
    split at h
    ·rename_i H hH
     split at h
     ·rename_i r H2 x2 hcall
      split at h
      ·rename_i M2 ps2 as2 bd2 tt2 st j hb
       split at h
       ·cases h
       ·rename_i e0 H3 hst hj hH3
        simp only[Option.some.injEq,Prod.mk.injEq] at h;obtain⟨rfl,rfl⟩:=h;have hf:=hO.call _ _ _ _ _ _ _ hcall;rw[set_ok hH] at hf;simp only[set_ok hH3];exact sd_range hg hf hb hst hj
       ·cases h
      ·cases h
     ·cases h
    ·cases h
   ·cases h
  ·rename_i id ops
   split at h
   ·rename_i o0 o1 hops
    have hops':ops=#[o0,o1]:=by apply Array.ext';simpa using hops
    subst hops';split at h
    ·rename_i m s cl hdo hop hgu hds
     split at h
     ·rename_i f hca har
      split at h
      ·rename_i kf caps hf
       split at h
       ·rename_i hqt
        split at h
        ·rename_i fn hfn
         split at h
         ·rename_i hlen
          simp only[Option.some.injEq,Prod.mk.injEq] at h;obtain⟨rfl,rfl⟩:=h;obtain⟨hfn1,hnm⟩:=hE.fn _ _ hfn;obtain⟨hbs,hq⟩:=hE.qt _ hqt fn hfn1
          have hk:=doOp_ok (ops:=#[o0,o1]) (i:=0) hE hO rfl hdo;have hargs:cl.args=#[]:=by apply Array.ext';simpa using har
          have hlen':caps.length=fn.nfree:=by simpa using hlen
          exact sd_defer hk.1 hop hgu hds hca hargs hf hfn1 hbs hnm fun vs hvs=>hq vs (by omega)
         ·cases h
        ·cases h
       ·cases h
      ·cases h
     ·cases h
    ·cases h
   ·cases h
  ·cases h
theorem evF_ok (hE:E.OK P) (hO:O.OK P) {fuel:Nat} {f:FuncId} {args:List AV} {H:Tr AO} {x:Nat} {r:AV} {H':Tr AO} {x':Nat} (h:evF E O fuel f args H x=some (r,H',x')):FnS P f args (hpT H) x r (hpT H') x':=by
 unfold evF at h;split at h
 ·rename_i fn hfn
  obtain⟨hfn1,hnm⟩:=hE.fn _ _ hfn;split at h
  ·rename_i c hb
   split at h
   ·rename_i hN
    split at h
    ·rename_i e s hs
     have he:(e=.normal∨e=.ret)∧∃v,ares E.Θ fn.results (frT s.t) (hpT s.h)=some v∧r=v∧H'=s.h∧x'=s.x:=by
      split at h
      ·split at h
       ·rename_i v hv
        simp only[Option.some.injEq,Prod.mk.injEq] at h;exact⟨.inl rfl,v,hv,h.1.symm,h.2.1.symm,h.2.2.symm⟩
       ·cases h
      ·split at h
       ·rename_i v hv
        simp only[Option.some.injEq,Prod.mk.injEq] at h;exact⟨.inr rfl,v,hv,h.1.symm,h.2.1.symm,h.2.2.symm⟩
       ·cases h
      ·cases h
     obtain⟨he,v,hv,rfl,rfl,rfl⟩:=he;split at hs
     ·have:=evD_ok hE hO _ _ _ _ _ hs;exact snd_fnD hE.tab hfn1 hb hN hnm (sd_forget (frT_ofFn 9 (fr0 args)) this) he hv
     ·have:=evJ_ok hE hO _ none _ _ _ _ hs;exact snd_fn hE.tab hfn1 hb hN hnm (snd_forget (frT_ofFn 9 (fr0 args)) (fun b=> .inl rfl) this) he hv
    ·cases h
   ·cases h
  ·cases h
 ·cases h
theorem lvl_ok (hE:E.OK P) {fuel:Nat}:∀d,(lvl E fuel d).OK P
 |0=>⟨fun f as H x r H' x' h=>by simp[lvl] at h,fun N c σ e σ' h=>by simp[lvl] at h⟩
 |d+1=>⟨fun f as H x r H' x' h=>evF_ok hE (lvl_ok hE d) h,fun N c σ e σ' h=>evJ_ok hE (lvl_ok hE d) fuel none c σ e σ' h⟩
end
end Go.Av
