/-
  slices.SortFunc at items: laid. Conditions: none.
-/
import Derived.Shelf.SlSortCmp.WholeK
import Derived.Shelf.SlicesG.Cmp
import Derived.Shelf.Lay
import Derived.LoopN
import Derived.StillTailTactics
import Derived.Ground.SlsfProg
import Derived.Ground.SlgcProg
import Derived.Test.YtjpkjbobcicfoaaGreatDoorE3
set_option linter.unusedSimpArgs false
set_option linter.unusedVariables false
namespace Go.Proofs
open Go.Shelf Go.RowKit Go.Lib Go.Sort
def Tryz.sortIt_ren:Go.Shelf.Ren:=⟨fun|6=>83|15=>151|14=>150|28=>219|29=>220|20=>211|21=>212|22=>213|23=>214|24=>215|25=>216|26=>217|27=>218|46=>258|47=>259|48=>260|49=>261|50=>262|57=>297|n=>n,fun|22=>179|24=>184|25=>187|3=>3|39=>139|0=>0|53=>34|55=>234|4=>4|46=>327|45=>326|50=>135|5=>5|9=>9|66=>360|70=>364|76=>396|77=>397|n=>n,fun|n=>n⟩
theorem Tryz.sortIt:Go.Proofs.SlLaysF0.n6 Tryz.prog Tryz.sortIt_ren where
 mixed:=by kernel_rfl
 f6:=⟨ "slices.SortFunc[[]probate/api.Item,probate/api.Item]",by decide,Tryz.func83.trans (congrArg some (by kernel_rfl))⟩
 f14:=⟨ "slices.pdqsortCmpFunc[probate/api.Item]",by decide,Tryz.func150.trans (congrArg some (by kernel_rfl))⟩
 f15:=Tryz.func151.trans (congrArg some (by kernel_rfl))
 f20:=⟨ "slices.insertionSortCmpFunc[probate/api.Item]",by decide,Tryz.func211.trans (congrArg some (by kernel_rfl))⟩
 f21:=⟨ "slices.heapSortCmpFunc[probate/api.Item]",by decide,Tryz.func212.trans (congrArg some (by kernel_rfl))⟩
 f22:=⟨ "slices.breakPatternsCmpFunc[probate/api.Item]",by decide,Tryz.func213.trans (congrArg some (by kernel_rfl))⟩
 f23:=⟨ "slices.choosePivotCmpFunc[probate/api.Item]",by decide,Tryz.func214.trans (congrArg some (by kernel_rfl))⟩
 f24:=⟨ "slices.reverseRangeCmpFunc[probate/api.Item]",by decide,Tryz.func215.trans (congrArg some (by kernel_rfl))⟩
 f25:=⟨ "slices.partialInsertionSortCmpFunc[probate/api.Item]",by decide,Tryz.func216.trans (congrArg some (by kernel_rfl))⟩
 f26:=⟨ "slices.partitionEqualCmpFunc[probate/api.Item]",by decide,Tryz.func217.trans (congrArg some (by kernel_rfl))⟩
 f27:=⟨ "slices.partitionCmpFunc[probate/api.Item]",by decide,Tryz.func218.trans (congrArg some (by kernel_rfl))⟩
 f28:=Tryz.func219.trans (congrArg some (by kernel_rfl))
 f29:=Tryz.func220.trans (congrArg some (by kernel_rfl))
 f46:=⟨ "slices.siftDownCmpFunc[probate/api.Item]",by decide,Tryz.func258.trans (congrArg some (by kernel_rfl))⟩
 f47:=Tryz.func259.trans (congrArg some (by kernel_rfl))
 f48:=Tryz.func260.trans (congrArg some (by kernel_rfl))
 f49:=⟨ "slices.medianAdjacentCmpFunc[probate/api.Item]",by decide,Tryz.func261.trans (congrArg some (by kernel_rfl))⟩
 f50:=⟨ "slices.medianCmpFunc[probate/api.Item]",by decide,Tryz.func262.trans (congrArg some (by kernel_rfl))⟩
 f57:=⟨ "slices.order2CmpFunc[probate/api.Item]",by decide,Tryz.func297.trans (congrArg some (by kernel_rfl))⟩
 t0:=Tryz.underlying0
 a0:=Tryz.isAgg0
 z0:=Tryz.sizeOf0
 v0:=Tryz.zeroValue0
 t3:=Tryz.underlying3
 a3:=Tryz.isAgg3
 z3:=Tryz.sizeOf3
 v3:=Tryz.zeroValue3
 t4:=Tryz.underlying4
 a4:=Tryz.isAgg4
 z4:=Tryz.sizeOf4
 v4:=Tryz.zeroValue4
 t5:=Tryz.underlying5
 a5:=Tryz.isAgg5
 z5:=Tryz.sizeOf5
 v5:=Tryz.zeroValue5
 t9:=Tryz.underlying9
 a9:=Tryz.isAgg9
 z9:=Tryz.sizeOf9
 v9:=Tryz.zeroValue9
 t22:=Tryz.underlying179
 a22:=Tryz.isAgg179
 z22:=Tryz.sizeOf179
 v22:=Tryz.zeroValue179
 t25:=Tryz.underlying187
 a25:=Tryz.isAgg187
 z25:=Tryz.sizeOf187
 v25:=Tryz.zeroValue187
 t39:=Tryz.underlying139
 a39:=Tryz.isAgg139
 z39:=Tryz.sizeOf139
 v39:=Tryz.zeroValue139
 t45:=Tryz.underlying326
 a45:=Tryz.isAgg326
 z45:=Tryz.sizeOf326
 v45:=Tryz.zeroValue326
 t46:=Tryz.underlying327
 a46:=Tryz.isAgg327
 z46:=Tryz.sizeOf327
 v46:=Tryz.zeroValue327
 t50:=Tryz.underlying135
 a50:=Tryz.isAgg135
 z50:=Tryz.sizeOf135
 v50:=Tryz.zeroValue135
 t53:=Tryz.underlying34
 a53:=Tryz.isAgg34
 z53:=Tryz.sizeOf34
 v53:=Tryz.zeroValue34
 t55:=Tryz.underlying234
 a55:=Tryz.isAgg234
 z55:=Tryz.sizeOf234
 v55:=Tryz.zeroValue234
 t66:=Tryz.underlying360
 a66:=Tryz.isAgg360
 z66:=Tryz.sizeOf360
 v66:=Tryz.zeroValue360
 t70:=Tryz.underlying364
 a70:=Tryz.isAgg364
 z70:=Tryz.sizeOf364
 v70:=Tryz.zeroValue364
 t76:=Tryz.underlying396
 a76:=Tryz.isAgg396
 z76:=Tryz.sizeOf396
 v76:=Tryz.zeroValue396
 t77:=Tryz.underlying397
 a77:=Tryz.isAgg397
 z77:=Tryz.sizeOf397
 v77:=Tryz.zeroValue397
def Tryz.cmpInt_ren:Go.Shelf.Ren:=⟨fun|5=>153|7=>221|n=>n,fun|22=>3|3=>3|4=>4|n=>n,fun|n=>n⟩
theorem Tryz.cmpInt:Go.Proofs.SlLaysC2.n5 Tryz.prog Tryz.cmpInt_ren where
 mixed:=by kernel_rfl
 f5:=⟨ "cmp.Compare[int]",by decide,Tryz.func153.trans (congrArg some (by kernel_rfl))⟩
 f7:=⟨ "cmp.isNaN[int]",by decide,Tryz.func221.trans (congrArg some (by kernel_rfl))⟩
 t3:=Tryz.underlying3
 a3:=Tryz.isAgg3
 z3:=Tryz.sizeOf3
 v3:=Tryz.zeroValue3
 t4:=Tryz.underlying4
 a4:=Tryz.isAgg4
 z4:=Tryz.sizeOf4
 v4:=Tryz.zeroValue4
 t22:=Tryz.underlying3
 a22:=Tryz.isAgg3
 z22:=Tryz.sizeOf3
 v22:=Tryz.zeroValue3
def orI (a b c:Int):Int:=if a≠0 then a else if b≠0 then b else c
set_option maxRecDepth 100000 in
set_option maxHeartbeats 2000000 in
theorem Tryz.or152 (W:World) (blk off:Nat) (a b c:Int) (h0:W.cell? ⟨blk,off,none⟩=some (.int .i64 a)) (h1:W.cell? ⟨blk,off+1,none⟩=some (.int .i64 b)) (h2:W.cell? ⟨blk,off+2,none⟩=some (.int .i64 c)):
  Calls Tryz.prog 152 #[.slice (some ⟨blk,off,none⟩) 3 3] W fun e w'=>e=.returned (.int .i64 (orI a b c))∧w'=W:=by
 go_enter Tryz.func152,Tryz.ntmps152
 go_wp2
 refine wp_loop_rounds 4 ?_;rw[rounds_succ]
 go_wp2
 ·rename_i ha
  go_ret
  have ha':a≠0:=by simpa using ha
  exact⟨by simp[orI,ha'],rfl⟩
 ·rename_i ha
  have ha':a=0:=by simpa using ha
  try simp only[Exit.then]
  rw[rounds_succ]
  go_wp2
  ·rename_i hb
   go_ret
   have hb':b≠0:=by simpa using hb
   exact⟨by simp[orI,ha',hb'],rfl⟩
  ·rename_i hb
   have hb':b=0:=by simpa using hb
   try simp only[Exit.then]
   rw[rounds_succ]
   go_wp2
   ·rename_i hc
    go_ret
    exact⟨by simp[orI,ha',hb'],rfl⟩
   ·rename_i hc
    have hc':c=0:=by simpa using hc
    try simp only[Exit.then]
    rw[rounds_succ]
    go_wp2
    go_ret
    exact⟨by simp[orI,ha',hb',hc'],rfl⟩
def encIt (x:Go.Av.It):List Value:=[.int .i64 x.1,.int .i64 x.2.1,.int .i64 x.2.2]
def ordI (x y:Go.Av.It):Int:=orI (Lib.compareInt x.1 y.1) (Lib.compareInt x.2.1 y.2.1) (Lib.compareInt x.2.2 y.2.2)
set_option maxRecDepth 100000 in
set_option maxHeartbeats 2000000 in
theorem Tryz.closure84 (a1 a2 a3 b1 b2 b3:Int) (W:World):Calls Tryz.prog 84 #[.agg #[.int .i64 a1,.int .i64 a2,.int .i64 a3],.agg #[.int .i64 b1,.int .i64 b2,.int .i64 b3]] W fun e w'=>e=.returned (.int .i64 (orI (Lib.compareInt a1 b1) (Lib.compareInt a2 b2) (Lib.compareInt a3 b3)))∧∃q os',w'=grow (W.drewN q) os':=by
 have hcon:=fun a b W'=>AnyG.cmp_Compare_int Tryz.cmpInt a b W'
 change ∀a b W',Calls Tryz.prog 153 _ _ _ at hcon;generalize Lib.compareInt=r at hcon ⊢
 go_enter Tryz.func84,Tryz.ntmps84
 go_wp2_with (first|(go_at_call 153;refine(hcon _ _ _).mono ?_;rintro e w' ⟨rfl,rfl⟩)|(go_at_call 152;refine(Tryz.or152 _ _ _ _ _ _ ?_ ?_ ?_).mono ?_))
 refine wp_region_still_tail 15 (by kernel_rfl) (by kernel_rfl) ?_;simp only[List.take_succ_cons,List.take_zero,List.drop_succ_cons,List.drop_zero];obtain⟨w1,hw1⟩:∃w1,w1=((W.alloc (.cells #[.int .i64 a1,.int .i64 a2,.int .i64 a3] 184)).alloc (.cells #[.int .i64 b1,.int .i64 b2,.int .i64 b3] 184)).drew:=⟨_,rfl⟩;change wpStill _ _ (((W.alloc (.cells #[.int .i64 a1,.int .i64 a2,.int .i64 a3] 184)).alloc (.cells #[.int .i64 b1,.int .i64 b2,.int .i64 b3] 184)).drew) _ _ _;rw[←hw1];have k1:w1.cell? ⟨W.heap.size,0,none⟩=some (.int .i64 a1):=by rw[hw1];go_simp
 have k2:w1.cell? ⟨W.heap.size,1,none⟩=some (.int .i64 a2):=by rw[hw1];go_simp
 have k3:w1.cell? ⟨W.heap.size,2,none⟩=some (.int .i64 a3):=by rw[hw1];go_simp
 have k4:w1.cell? ⟨W.heap.size+1,0,none⟩=some (.int .i64 b1):=by rw[hw1];go_simp
 have k5:w1.cell? ⟨W.heap.size+1,1,none⟩=some (.int .i64 b2):=by rw[hw1];go_simp
 have k6:w1.cell? ⟨W.heap.size+1,2,none⟩=some (.int .i64 b3):=by rw[hw1];go_simp
 repeat still_step
 still_call (hcon _ _ _)
 repeat still_step
 still_call (hcon _ _ _)
 repeat still_step
 still_call (hcon _ _ _)
 refine wpStill_nil ?_;change wpList _ _ _ _ _ (((W.alloc (.cells #[.int .i64 a1,.int .i64 a2,.int .i64 a3] 184)).alloc (.cells #[.int .i64 b1,.int .i64 b2,.int .i64 b3] 184)).drew);rw[←hw1];clear k1 k2 k3 k4 k5 k6
 go_wp2_with (go_at_call 152;refine(Tryz.or152 _ _ 0 (r a1 b1) (r a2 b2) (r a3 b3) (by go_simp) (by go_simp) (by go_simp)).mono ?_;rintro e w' ⟨rfl,rfl⟩)
 go_ret
 refine⟨rfl,1,#[.cells #[.int .i64 a1,.int .i64 a2,.int .i64 a3] 184,.cells #[.int .i64 b1,.int .i64 b2,.int .i64 b3] 184,.cells #[.int .i64 (r a1 b1),.int .i64 (r a2 b2),.int .i64 (r a3 b3)] 3], ?_⟩;rw[alloc_eq_grow,alloc_eq_grow,alloc_eq_grow,grow_grow,grow_grow];rfl
theorem cmpI (x y:Int):Lib.compareInt x y=if x<y then -1 else if y<x then 1 else 0:=by
 unfold Lib.compareInt;rfl
theorem ltOrd (x y:Go.Av.It):ltOf ordI x y=decide (x.1<y.1∨(x.1=y.1∧(x.2.1<y.2.1∨(x.2.1=y.2.1∧x.2.2<y.2.2)))):=by
 unfold ltOf ordI orI;simp only[cmpI];by_cases a1:x.1<y.1
 ·simp[a1]
 ·by_cases a2:y.1<x.1
  ·have:¬x.1=y.1:=by omega
   simp[a1,a2,this]
  ·have e:x.1=y.1:=by omega
   by_cases b1:x.2.1<y.2.1
   ·simp[e,b1]
   ·by_cases b2:y.2.1<x.2.1
    ·have:¬x.2.1=y.2.1:=by omega
     simp[e,b1,b2,this]
    ·have e2:x.2.1=y.2.1:=by omega
     by_cases c1:x.2.2<y.2.2
     ·simp[e,e2,c1]
     ·by_cases c2:y.2.2<x.2.2<;>simp[e,e2,c1,c2]
theorem swoOrd:SWO (ltOf ordI) where
 irrefl x:=by rw[ltOrd];simp
 trans x y z h1 h2:=by rw[ltOrd] at*;simp at*;omega
 ntrans x y z h1 h2:=by rw[ltOrd] at*;simp at*;omega
theorem Tryz.cmpLays84 (blk off size:Nat) (w:World):CmpLays Tryz.prog 84 #[] encIt 3 ordI blk off size w:=
 fun _ _ _ _ x y=>Tryz.closure84 x.1 x.2.1 x.2.2 y.1 y.2.1 y.2.2 _
def sortIL (l:List Go.Av.It):List Go.Av.It:=(pdq (ltOf ordI) l.toArray 0 l.toArray.size (Lib.bitLen l.toArray.size) true true).toList
theorem sortIL_perm (l:List Go.Av.It):(sortIL l).Perm l:=by
 have h:=(pdq_sorts (ltOf ordI) swoOrd l.toArray 0 l.toArray.size (Lib.bitLen l.toArray.size) true true (Nat.zero_le _) (Nat.le_refl _) (Or.inl rfl)).1;unfold sortIL;generalize pdq (ltOf ordI) l.toArray 0 l.toArray.size (Lib.bitLen l.toArray.size) true true=D at h ⊢;obtain⟨h1,_,h3⟩:=h;have e1:D.extract 0 l.toArray.size=D:=by rw[←h1];exact Array.extract_size
 have e2:l.toArray.extract 0 l.toArray.size=l.toArray:=Array.extract_size;rw[e1,e2] at h3;simpa using h3
theorem Tryz.sort83 (blk off cap:Nat) (l:List Go.Av.It) (w:World) (hH:HoldsK encIt 3 w blk off l.toArray) (hblk:blk<w.heap.size) (hl:l.length<4611686018427387904):
  Calls Tryz.prog 83 #[.slice (some ⟨blk,off,none⟩) l.length cap,.func (.func 84) #[] #[]] w fun e w'=>e=.returned (.tuple #[])∧∃n os,w'=sortWorldK encIt 3 w blk off n (sortIL l).toArray os:=by
 have eg:∀args w,(callFunc 84 args).run Tryz.prog w=.ok (.enter 84 args) w:=enters_of Tryz.func84 (by kernel_rfl) rfl;have hcon:=AnyQ.slices_SortFunc_eq Tryz.sortIt 3 Tryz.isAgg184 Tryz.sizeOf184 encIt (fun _=>rfl) (fun x v hv=>by simp[encIt] at hv;rcases hv with rfl|rfl|rfl<;>rfl) ordI swoOrd 84 #[] blk off cap l.toArray w eg (Tryz.cmpLays84 blk off _ w) hH hblk (by simpa using hl);change Calls Tryz.prog 83 _ _ _ at hcon;simpa[sortIL] using hcon
end Go.Proofs
namespace Go.Av
open Go.Proofs Go.Shelf Go.RowKit Go.Lib Go.Sort
set_option maxRecDepth 100000
theorem enc_get (l:List It) (t:Nat) (h:t<l.length*3):∃x k,l[t / 3]?=some x∧(flatK encIt 3 l.toArray)[t]! =(encIt x)[t % 3]! ∧(encIt x)[t % 3]?=some (.int .i64 k)∧(eIt x)[t % 3]?=some (.int .i64 k):=by
 have h3:t / 3<l.length:=by omega
 refine⟨l[t / 3], ?_⟩;have hm:t % 3<3:=Nat.mod_lt _ (by decide)
 have e:(flatK encIt 3 l.toArray)[t]! =(encIt l[t / 3])[t % 3]! :=by
  rw[get_flatK _ _ _ _ (by simpa using h)]
  congr 2
  simp[h3]
 generalize hx:l[t / 3]=x at e ⊢;have hl:l[t / 3]?=some x:=by rw[←hx];simp[h3]
 generalize t % 3=r at hm e ⊢
 match r,hm with
 |0,_=>exact⟨x.1,hl,e,rfl,rfl⟩
 |1,_=>exact⟨x.2.1,hl,e,rfl,rfl⟩
 |2,_=>exact⟨x.2.2,hl,e,rfl,rfl⟩
theorem fn83 (l:List It) (b:Nat) (h:Heap) (n:Nat) (hb:h b=some (.cells (l.map eIt))) (hl:l.length<2^40):FnS pg 83 [.sl b 0 l.length 3,.fn 84 []] h n (.tup []) (upd h b (some (.cells ((sortIL l).map eIt)))) n:=by
 refine⟨⟨Nat.le_refl _,fun x _ hx=>?_,fun hf x hx=>?_⟩,⟨_,Tryz.func83,rfl,by decide⟩,fun w S F m vs hfr hr hL hm=>?_⟩
 ·by_cases e:x=b
  ·subst e;rw[hb] at hx;cases hx
  ·rw[upd_app,if_neg e];exact hx
 ·by_cases e:x=b
  ·subst e;rw[hf x hx] at hb;cases hb
  ·rw[upd_app,if_neg e];exact hf x hx
 obtain⟨hlen,hL⟩:=hL
 obtain⟨v1,v2,rfl⟩:∃v1 v2,vs=[v1,v2]:=by
  match vs,hlen with
  |[v1,v2],_=>exact⟨v1,v2,rfl⟩
 have hv1:VR w S m (.sl b 0 l.length 3) v1:=hL 0 _ _ rfl rfl;have hv2:VR w S m (.fn 84 []) v2:=hL 1 _ _ rfl rfl
 obtain rfl:v2=.func (.func 84) #[] #[]:=by
  generalize hc:([]:List AV)=cs at hv2
  cases hv2 with
  |fn _ _ vs hl _=>
   subst hc;have:vs=[]:=List.length_eq_zero_iff.1 hl;subst this;rfl
 obtain⟨p,cap,hp,hps,rfl⟩:∃p cap,m b=some p∧p.sz=3∧v1=.slice (some ⟨p.blk,p.off,none⟩) l.length cap:=by
  generalize hz:3=z at hv1
  cases hv1 with
  |sl _ _ _ cap p h _ _ _ _=>exact⟨p,cap,h,rfl,by simp⟩
 obtain⟨arr,e,a1,a2,a2',a3,a4,a5,a6⟩:=hr.content b _ p hb hp;rw[hps] at a3 a4 a5;have hpl:p.ext=l.length:=by rw[←a2,List.length_map]
 have hblk:=hr.inm b p hp
 have hcell:∀t,t<l.length*3→∃x k,l[t / 3]?=some x∧(flatK encIt 3 l.toArray)[t]! =.int .i64 k∧arr[p.off+t]?=some (.int .i64 k):=fun t ht=>by
  obtain⟨x,k,e1,e2,e3,e4⟩:=enc_get l t ht;refine⟨x,k,e1,by rw[e2];rw[List.getElem!_eq_getElem?_getD,e3];rfl, ?_⟩;obtain⟨v,hv,hvr⟩:=a5 (t / 3) (t % 3) (.int .i64 k) (by unfold getc;rw[List.getElem?_map,e1];exact e4);cases hvr;rw[←hv]
  congr 1
  omega
 have hH:HoldsK encIt 3 w p.blk p.off l.toArray:=fun t ht=>by
  have ht':t<l.length*3:=by simpa using ht
  obtain⟨x,k,_,e2,e3⟩:=hcell t ht';refine⟨?_, ?_⟩
  ·unfold World.cell?;rw[a1];simp[e3,e2]
  ·unfold World.frozen?;rw[a1];simp
 refine(Tryz.sort83 p.blk p.off cap l w hH hblk (by omega)).mono fun ex w' ⟨he,k,os,hw⟩=>?_
 have hperm:=sortIL_perm l;have hsl:(sortIL l).length=l.length:=hperm.length_eq;obtain⟨F1,hF1⟩:∃F1,F1=flatK encIt 3 (sortIL l).toArray:=⟨_,rfl⟩;have hF1s:F1.size=l.length*3:=by rw[hF1];simp[hsl]
 have hheap:w'.heap=w.heap.modify p.blk (onCells (putCells id p.off F1))++os:=by rw[hw,hF1];rfl
 have hos:w'.os=w.os:=by rw[hw];rfl
 have htape:w'.tape=w.tape:=by rw[hw];rfl
 have hout:w'.output=w.output:=by rw[hw];rfl
 have hoth:∀j,j<w.heap.size→j≠p.blk→w'.heap[j]?=w.heap[j]?:=fun j hj hne=>by
  rw[hheap,Array.getElem?_append_left (by simpa using hj),Array.getElem?_modify,if_neg (Ne.symm hne)]
 have hown:w'.heap[p.blk]?=some (.cells (putCells id p.off F1 arr) e (0,0)):=by
  rw[hheap,Array.getElem?_append_left (by simpa using hblk),Array.getElem?_modify,if_pos rfl,a1];rfl
 have hsz:w.heap.size≤w'.heap.size:=by rw[hheap];simp
 have hapart:=hr.apart b _ p hb hp;have hext:Ext (fun k=>S k∨F k) w w':=⟨hos,htape,hout,hsz,fun j hj=>hoth j (hj.elim (hr.inS j) (hr.inF j)) fun e=>by subst e;exact hj.elim hapart.1 hapart.2⟩;have hextS:Ext S w w':=hext.mono fun _ h=> .inl h
 refine⟨_,S,m,he,⟨hext,fun _ h=>h,fun _ h=> .inl h,fun _ _ h=>h,fun _ _=>rfl,hm⟩,.tup [] [] rfl fun i c v h=>by simp at h, ?_⟩
 have hg:∀x o,upd h b (some (.cells ((sortIL l).map eIt))) x=some o→h x≠none:=fun x o hx hn=>by
  by_cases e:x=b
  ·subst e;rw[hb] at hn;cases hn
  ·rw[upd_app,if_neg e] at hx;rw[hx] at hn;cases hn
 refine⟨fun x o q hx hq=>?_,fun x y o1 o2 q1 q2 h1 h2 m1 m2 hne=>?_,fun x o q hx hq=>?_,fun k hk=>Nat.lt_of_lt_of_le (hr.inS k hk) hsz,fun k hk=>Nat.lt_of_lt_of_le (hr.inF k hk) hsz,fun x q hx=>Nat.lt_of_lt_of_le (hr.inm x q hx) hsz,fun k a ha=>(hr.glob k a ha).mono hextS (fun _ h=>h) fun _ _ h=>h⟩
 ·by_cases e1:x=b
  ·subst e1;rw[upd_app,if_pos rfl] at hx;cases hx;rw[hp] at hq;cases hq;refine⟨_,e,hown,by rw[List.length_map,hsl,hpl],a2',by rw[hps];simpa[putCells] using a3,fun i q hi=>?_,fun i j c hc=>?_,fun t o ht=>?_⟩
   ·rw[List.getElem?_map] at hi;obtain⟨y,_,rfl⟩:=Option.map_eq_some_iff.1 hi;exact⟨by rw[hps];rfl,rfl⟩
   ·rw[hps];unfold getc at hc;rw[List.getElem?_map] at hc;obtain⟨q,hq1,hq2⟩:=Option.bind_eq_some_iff.1 hc;obtain⟨y,hy,rfl⟩:=Option.map_eq_some_iff.1 hq1
    have hi:i<l.length:=by
     have:=(List.getElem?_eq_some_iff.1 hy).1;omega
    have hj:j<3:=(List.getElem?_eq_some_iff.1 hq2).1;obtain⟨x',k',e1',e2',e3',e4'⟩:=enc_get (sortIL l) (i*3+j) (by rw[hsl];omega);have hd:(i*3+j) / 3=i:=by omega
    have hmo:(i*3+j) % 3=j:=by omega
    rw[hd,hy] at e1';cases e1';rw[hmo] at e2' e3' e4';rw[hq2] at e4';cases e4';refine⟨.int .i64 k', ?_,.int _ _⟩;have hlt:p.off+i*3+j<arr.size:=by omega
    unfold putCells;rw[Array.getElem?_mapIdx,Array.getElem?_eq_getElem hlt,Option.map_some,if_pos ⟨by omega,by rw[hF1s];omega⟩]
    congr 1
    rw[show p.off+i*3+j - p.off=i*3+j by omega,hF1,e2',List.getElem!_eq_getElem?_getD,e3'];rfl
   ·have:=a6 t o ht;simpa[putCells] using this
  ·rw[upd_app,if_neg e1] at hx;exact(hr.content x o q hx hq).mono hextS (fun _ h=>h) (fun _ _ h=>h) (hoth _ (hr.inm x q hq) fun e2=>(hr.disj x b _ _ q p hx hb hq hp e1) e2)
 ·obtain⟨o1',ho1⟩:=Option.ne_none_iff_exists'.1 (hg x o1 h1);obtain⟨o2',ho2⟩:=Option.ne_none_iff_exists'.1 (hg y o2 h2);exact hr.disj x y _ _ q1 q2 ho1 ho2 m1 m2 hne
 ·obtain⟨o1',ho1⟩:=Option.ne_none_iff_exists'.1 (hg x o hx);exact hr.apart x _ q ho1 hq
theorem fz83 (l:List It) (b:Nat) (h:Heap) (n:Nat) (hb:h b=some (.cells (l.map eIt))) (hl:l.length<2^40):FH pg Tq 83 [.sl b 0 l.length 3,.fn 84 []] h n fun r h' n'=>r=.tup []∧n'=n∧h'=upd h b (some (.cells ((sortIL l).map eIt))):=
 ⟨_,_,_,.semF (fn83 l b h n hb hl),rfl,rfl,rfl⟩
end Go.Av
