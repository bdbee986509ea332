/-
  The arguments of the Top laws; what is laid; closed facts of the program. Conditions: none.
-/
import Derived.Test.YtjpkjbobcicfoaaGreatDoorRows
import Derived.JoinedOf
import Derived.LaidLaws
import Derived.Lib.LaidU8
import Derived.PinnedBridge
import Derived.Lay
import Derived.Test.YtjpkjbobcicfoaaGreatDoorD1
set_option linter.unusedSimpArgs false
set_option linter.unusedVariables false
namespace Go.Av
open Go.Proofs
open Go.ChangeShapes Go.WideShapes Go.ChangeAt Go.RowKit Go.Deep
set_option maxRecDepth 100000
theorem Rd.arg1 {P:Program} {t:TypeId} {X:Type} {E:X→AV} {ok:X→Prop} (h:Rd P t (fun x=>[E x]) ok) {H:Type} {enc:TypeId×Value→H} {W:World} {v:Value} {d:DataW H} {p:List MemPlace}
  (hv:v.cells.toList=[v]) (ht:DataW.Trod enc P W 0 (fun _=>true) true t v d p) (hw:∀n∈d.weights P t,n≤reachBytes):∃x,VR W (Old W) noM (E x) v∧ok x:=by
 obtain⟨fuel,hf⟩:=ht;obtain⟨x,h1,h2⟩:=h H enc W fuel _ _ hf hw;rw[hv] at h1;obtain⟨v',e,hr⟩:=h1.get (i:=0) rfl;cases e;exact⟨x,hr,h2⟩
theorem Rd.argS {P:Program} {t:TypeId} {X:Type} {E:X→List AV} {ok:X→Prop} (h:Rd P t E ok) {H:Type} {enc:TypeId×Value→H} {W:World} {v:Value} {cs:Array Value} {d:DataW H} {p:List MemPlace}
  (hv:v=.agg cs) (ht:DataW.Trod enc P W 0 (fun _=>true) true t v d p) (hw:∀n∈d.weights P t,n≤reachBytes):∃x,VR W (Old W) noM (.agg (E x)) v∧ok x:=by
 obtain⟨fuel,hf⟩:=ht;obtain⟨x,h1,h2⟩:=h H enc W fuel _ _ hf hw;subst hv;obtain⟨vs⟩:=cs;exact⟨x,.agg _ _ h1.1 h1.2,h2⟩
section
variable {H:Type} {enc:TypeId×Value→H} {W:World} {base:Nat} {v:Value} {d:DataW H} {p:List MemPlace}
theorem argGr (hv:Value.okWide pg W .any base 24 v) (h:DataW.Trod enc pg W 0 (fun _=>true) true 24 v d p) (hw:∀n∈d.weights pg 24,n≤reachBytes):∃g:Gr,VR W (Old W) noM (.agg (eGr g)) v∧g.Ok:=by
 obtain⟨cs,hc,_⟩:=okWide_struct Tryz.underlying24 hv;exact rdGr.argS hc h hw
theorem slice_cells {t e:TypeId} (ht:pg.underlying t=some (.slice e)) (hv:Value.okWide pg W .any base t v):v.cells.toList=[v]:=by
 obtain⟨a,n,m,rfl⟩:=okWide_slice ht hv;rfl
theorem argIns (hv:Value.okWide pg W .any base 25 v) (h:DataW.Trod enc pg W 0 (fun _=>true) true 25 v d p) (hw:∀n∈d.weights pg 25,n≤reachBytes):
  ∃l:List Int,VR W (Old W) noM (.ro (l.map eIn)) v∧l.length<2^60∧∀n∈l,I64 n:=rdIns.arg1 (slice_cells Tryz.underlying25 hv) h hw
end
theorem ownK:ownKnob Tryz.prog.godebug=none:=by kernel_rfl
theorem laidOut:laidOutB Tryz.prog=true:=by kernel_rfl
theorem odd_name:Tryz.prog.globalNamed "probate/check.errOdd" =some 8:=by kernel_rfl
theorem odd_type:∃t ms,(Tryz.prog.globals[8]?).map (·.type)=some t∧Tryz.prog.underlying t=some (.interface ms):=⟨124,_,by kernel_rfl,Tryz.underlying124⟩
theorem glob_of {W:World} {l:List (String×DataW Unit)} {nm:String} {d:DataW Unit} (h:laidMet Tryz.prog l W) (hm:("probate/check.errOdd",DataW.iface nm d)∈l):
  ∀k a,gl gT k=some a→VR W (Old W) (fun _=>none) a (.pointer (some ⟨k,0,none⟩)):=by
 obtain⟨g,t,cs,fuel,p,h1,h2,h3,h4⟩:=Lib.laidMet.reads h hm;obtain rfl:=Option.some.inj (odd_name.symm.trans h1);obtain⟨t',ms,e1,e2⟩:=odd_type;obtain rfl:=Option.some.inj (e1.symm.trans h2);obtain⟨_,u,v,hc,_⟩:=iface_of_trod e2 h4
 have hcell:W.cell? ⟨8,0,none⟩=some (.iface u v):=by
  have h5:=World.var?_cell h1 h3 0
  have h6:cs[0]?=some (.iface u v):=by
   have:cs.toList[0]?=some (.iface u v):=by rw[hc];rfl
   simpa using this
  rw[h6] at h5;simpa using h5
 intro k a hk;simp only[gl,gT] at hk;split at hk
 ·rename_i e
  subst e;injection hk with hk
  subst hk;refine .rp [.ifc] 0 8 0 (fun _=> .iface u v) ?_ (fun j c hj=>?_) (fun j c hj=>?_)
  ·show 8<W.heap.size;refine Nat.lt_of_not_le fun hle=>?_
   have h7:W.heap[8]?=none:=Array.getElem?_eq_none hle;unfold World.cell? at hcell;rw[h7] at hcell;cases hcell
  ·cases j with
   |zero=>simpa using hcell
   |succ j=>simp at hj
  ·cases j with
   |zero=>simp at hj;subst hj;exact .ifc _ _
   |succ j=>simp at hj
 ·cases hk
end Go.Av
