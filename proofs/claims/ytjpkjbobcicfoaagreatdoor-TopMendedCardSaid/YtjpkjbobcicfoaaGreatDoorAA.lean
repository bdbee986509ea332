/-
  Texts A0, A1, A2, A3, A4, A5, A6, A7, A8, A9, A10, A11 of this work, one behind the other. Conditions: none.
-/
import Derived.Orders
import Derived.Laws.World
import Derived.Deep.MidRow
import Derived.Deep.AppendSrc
import Derived.Laws.MakeOwn
import Derived.Laws.AppendOwn
set_option linter.unusedSimpArgs false
set_option linter.unusedVariables false
namespace Go.Av
theorem take_drop_drop {α:Type} (X:List α) {k s:Nat} (h:k≤s) (hs:s≤X.length):(X.take s).drop k++X.drop s=X.drop k:=by
 have h1:X.drop k=(X.take s++X.drop s).drop k:=by rw[List.take_append_drop]
 rw[h1,List.drop_append_of_le_length (by simp;omega)]
theorem take_take_drop {α:Type} (X:List α) (i f:Nat):X.take i++(X.drop i).take f=X.take (i+f):=by
 rw[List.take_add]
theorem seg_key {α:Type} (L us:List α) (o n i s f:Nat) (h1:i+s≤n) (h2:f+us.length≤s) (h3:o+n≤L.length):
  ((L.take (o+i+f)++us++L.drop (o+i+f+us.length)).drop o).take n=
    ((L.drop o).take n).take i++(((((L.drop o).take n).drop i).take s).take f++us++((((L.drop o).take n).drop i).take s).drop (f+us.length))++((L.drop o).take n).drop (i+s):=by
 have hM:((L.drop o).take n).length=n:=by simp;omega
 have e1:L.take (o+i+f)=L.take o++((L.drop o).take n).take (i+f):=by
  rw[List.take_take,Nat.min_eq_left (by omega),←List.take_add];congr 1;omega
 have e2:L.drop (o+i+f+us.length)=((L.drop o).take n).drop (i+f+us.length)++L.drop (o+n):=by
  have:=take_drop_drop (L.drop o) (k:=i+f+us.length) (s:=n) (by omega) (by simp;omega);rw[List.drop_drop,List.drop_drop] at this;rw[this];congr 1;omega
 rw[e1,e2];generalize (L.drop o).take n=M at*;have hA:(L.take o).length=o:=by simp;omega
 generalize L.take o=A at*;generalize L.drop (o+n)=C at*;have e3:A++M.take (i+f)++us++(M.drop (i+f+us.length)++C)=A++((M.take (i+f)++us++M.drop (i+f+us.length))++C):=by simp[List.append_assoc]
 rw[e3,List.drop_append_of_le_length (by omega),List.drop_of_length_le (by omega),List.nil_append,List.take_append_of_le_length (by simp;omega),List.take_of_length_le (by simp;omega)];have e4:((M.drop i).take s).take f=(M.drop i).take f:=by rw[List.take_take,Nat.min_eq_left (by omega)]
 have e5:((M.drop i).take s).drop (f+us.length)++M.drop (i+s)=M.drop (i+f+us.length):=by
  have:=take_drop_drop (M.drop i) (k:=f+us.length) (s:=s) h2 (by simp;omega);rw[List.drop_drop,List.drop_drop] at this;rw[this];congr 1;omega
 rw[e4,List.append_assoc (M.take i),List.append_assoc ((M.drop i).take f++us),e5,List.append_assoc ((M.drop i).take f),←List.append_assoc (M.take i),take_take_drop,List.append_assoc]
end Go.Av
namespace Go.Av
inductive AV where
 |any
 |bool (b:Bool)
 |int (k:IntKind) (n:Int)
 |str (s:ByteArray)
 |nilp|nilf|nili|nils|nilm|emp|emn
 |ptr (b i off:Nat)
 |rp (cells:List AV) (off:Nat)
 |sl (b off len sz:Nat)
 |ro (es:List (List AV))
 |fn (f:FuncId) (caps:List AV)
 |bm (f:FuncId) (first:List AV)
 |ifc
 |agg (cs:List AV)
 |tup (cs:List AV)
 |mp (b:Nat)
 |yl (b:Nat)
 |tp (b:Nat) (ty:TypeId)
 |sd (b i:Nat) (ty:TypeId)
 |ts (b off len sz:Nat) (ty:TypeId)
 |u8
 deriving Inhabited
inductive AO where
 |cells (es:List (List AV))
 |map (es:List (AV×AV))
 |loop (N:Nat) (ps:List Nat) (assign body:Code) (t:Nat→AV) (st:LoopState) (jump:Option Code)
 deriving Inhabited
structure Pl where
 blk:Nat
 off:Nat
 sz:Nat
 ext:Nat
 room:Nat
 ty:Option (TypeId×Bool)
def TyC (p:Pl) (arr:Array Value) (e:TypeId):Prop:=∀t o,p.ty=some (t,o)→e=t∧p.off=0∧(o=true→arr.size=p.sz)
abbrev Pm:=Nat→Option Pl
abbrev Heap:=Nat→Option AO
abbrev Fr:=Nat→AV
def scal:AV→Bool
 | .any| .agg _| .tup _=>false
 |_=>true
def getc (es:List (List AV)) (i j:Nat):Option AV:=(es[i]?).bind (·[j]?)
inductive VR (w:World) (S:Nat→Prop):Pm→AV→Value→Prop
 |any {m:Pm} (v:Value):VR w S m .any v
 |bool {m:Pm} (b:Bool):VR w S m (.bool b) (.bool b)
 |int {m:Pm} (k:IntKind) (n:Int):VR w S m (.int k n) (.int k n)
 |str {m:Pm} (s:ByteArray):VR w S m (.str s) (.string s)
 |nilp {m:Pm}:VR w S m .nilp (.pointer none)
 |nilf {m:Pm}:VR w S m .nilf .nilFunc
 |nili {m:Pm}:VR w S m .nili .nilIface
 |nils {m:Pm}:VR w S m .nils (.slice none 0 0)
 |emp {m:Pm} (a:Option Addr):VR w S m .emp (.slice a 0 0)
 |emn {m:Pm} (a:Addr):VR w S m .emn (.slice (some a) 0 0)
 |nilm {m:Pm}:VR w S m .nilm (.map none)
 |ptr {m:Pm} (b i off:Nat) (p:Pl) (h:m b=some p):VR w S m (.ptr b i off) (.pointer (some ⟨p.blk,p.off+i*p.sz+off,none⟩))
 |rp {m:Pm} (cells:List AV) (off blk o:Nat) (us:Nat→Value) (hS:S blk)
   (hc:∀j c,cells[j]?=some c→w.cell? ⟨blk,o+j,none⟩=some (us j))
   (hr:∀j c,cells[j]?=some c→VR w S (fun _=>none) c (us j)):VR w S m (.rp cells off) (.pointer (some ⟨blk,o+off,none⟩))
 |sl {m:Pm} (b off len cap:Nat) (p:Pl) (h:m b=some p) (h1:p.ext≤off+cap) (h2:off+cap≤p.room) (h3:len≤cap) (h4:off+len≤p.ext):
   VR w S m (.sl b off len p.sz) (.slice (some ⟨p.blk,p.off+off*p.sz,none⟩) len cap)
 |ron {m:Pm} (a:Option Addr) (cap:Nat):VR w S m (.ro []) (.slice a 0 cap)
 |ro {m:Pm} (es:List (List AV)) (blk o sz cap:Nat) (us:Nat→Nat→Value) (hS:S blk)
   (hz:∀(i:Nat) (e:List AV),es[i]?=some e→e.length=sz∧e.all scal=true) (hcap:es.length≤cap)
   (hc:∀i j c,getc es i j=some c→w.cell? ⟨blk,o+i*sz+j,none⟩=some (us i j))
   (hr:∀i j c,getc es i j=some c→VR w S (fun _=>none) c (us i j)):VR w S m (.ro es) (.slice (some ⟨blk,o,none⟩) es.length cap)
 |fn {m:Pm} (f:FuncId) (caps:List AV) (vs:List Value) (hl:vs.length=caps.length)
   (hr:∀(i:Nat) (c:AV) (v:Value),caps[i]?=some c→vs[i]?=some v→VR w S m c v):VR w S m (.fn f caps) (.func (.func f) #[] ⟨vs⟩)
 |bm {m:Pm} (f:FuncId) (first:List AV) (vs:List Value) (hl:vs.length=first.length)
   (hr:∀(i:Nat) (c:AV) (v:Value),first[i]?=some c→vs[i]?=some v→VR w S m c v):VR w S m (.bm f first) (.func (.func f) ⟨vs⟩ #[])
 |ifc {m:Pm} (t:TypeId) (v:Value):VR w S m .ifc (.iface t v)
 |agg {m:Pm} (cs:List AV) (vs:List Value) (hl:vs.length=cs.length)
   (hr:∀(i:Nat) (c:AV) (v:Value),cs[i]?=some c→vs[i]?=some v→VR w S m c v):VR w S m (.agg cs) (.agg ⟨vs⟩)
 |tup {m:Pm} (cs:List AV) (vs:List Value) (hl:vs.length=cs.length)
   (hr:∀(i:Nat) (c:AV) (v:Value),cs[i]?=some c→vs[i]?=some v→VR w S m c v):VR w S m (.tup cs) (.tuple ⟨vs⟩)
 |mp {m:Pm} (b:Nat) (p:Pl) (h:m b=some p):VR w S m (.mp b) (.map (some p.blk))
 |yl {m:Pm} (b:Nat) (p:Pl) (h:m b=some p):VR w S m (.yl b) (.func (.yield p.blk) #[] #[])
 |tp {m:Pm} (b:Nat) (p:Pl) (ty:TypeId) (h:m b=some p) (ht:p.ty=some (ty,true)):VR w S m (.tp b ty) (.pointer (some ⟨p.blk,p.off,none⟩))
 |sd {m:Pm} (b i:Nat) (p:Pl) (ty:TypeId) (o:Bool) (h:m b=some p) (ht:p.ty=some (ty,o)):VR w S m (.sd b i ty) (.pointer (some ⟨p.blk,p.off+i*p.sz,none⟩))
 |ts {m:Pm} (b off len cap:Nat) (p:Pl) (ty:TypeId) (o:Bool) (h:m b=some p) (h1:p.ext≤off+cap) (h2:off+cap≤p.room) (h3:len≤cap) (h4:off+len≤p.ext) (ht:p.ty=some (ty,o)):
   VR w S m (.ts b off len p.sz ty) (.slice (some ⟨p.blk,p.off+off*p.sz,none⟩) len cap)
 |u8 {m:Pm} (n:Int):VR w S m .u8 (.int .u8 n)
structure Ext (S:Nat→Prop) (w w':World):Prop where
 os:w'.os=w.os
 tape:w'.tape=w.tape
 output:w'.output=w.output
 size:w.heap.size≤w'.heap.size
 same:∀k,S k→w'.heap[k]?=w.heap[k]?
theorem Ext.refl (S:Nat→Prop) (w:World):Ext S w w:=⟨rfl,rfl,rfl,Nat.le_refl _,fun _ _=>rfl⟩
theorem Ext.trans {S S':Nat→Prop} {a b c:World} (h:Ext S a b) (k:Ext S' b c) (hs:∀i,S i→S' i):Ext S a c:=
 ⟨k.os.trans h.os,k.tape.trans h.tape,k.output.trans h.output,Nat.le_trans h.size k.size,fun i hi=>(k.same i (hs i hi)).trans (h.same i hi)⟩
theorem Ext.mono {S S':Nat→Prop} {w w':World} (h:Ext S' w w') (hs:∀i,S i→S' i):Ext S w w':=
 ⟨h.os,h.tape,h.output,h.size,fun i hi=>h.same i (hs i hi)⟩
theorem cell?_of_heap {w w':World} {a:Addr} (h:w'.heap[a.block]?=w.heap[a.block]?):w'.cell? a=w.cell? a:=by
 unfold World.cell?;rw[h]
theorem Ext.cell {S:Nat→Prop} {w w':World} (h:Ext S w w') {a:Addr} (ha:S a.block):w'.cell? a=w.cell? a:=
 cell?_of_heap (h.same _ ha)
theorem VR.mono {w w':World} {S S':Nat→Prop} {m m':Pm} {a:AV} {v:Value} (h:VR w S m a v)
  (he:Ext S w w') (hs:∀i,S i→S' i) (hm:∀b p,m b=some p→m' b=some p):VR w' S' m' a v:=by
 induction h generalizing m' with
 |any v=>exact .any v
 |bool b=>exact .bool b
 |int k n=>exact .int k n
 |str s=>exact .str s
 |nilp=>exact .nilp
 |nilf=>exact .nilf
 |nili=>exact .nili
 |nils=>exact .nils
 |emp a=>exact .emp a
 |emn a=>exact .emn a
 |nilm=>exact .nilm
 |ptr b i off p h=>exact .ptr b i off p (hm _ _ h)
 |rp cells off blk o us hS hc hr ih=>
  exact .rp cells off blk o us (hs _ hS) (fun j c hj=>by rw[he.cell hS];exact hc j c hj) (fun j c hj=>ih j c hj (fun _ _ h=>h))
 |sl b off len cap p h h1 h2 h3 h4=>exact .sl b off len cap p (hm _ _ h) h1 h2 h3 h4
 |ron a cap=>exact .ron a cap
 |ro es blk o sz cap us hS hz hcap hc hr ih=>
  exact .ro es blk o sz cap us (hs _ hS) hz hcap (fun i j c hj=>by rw[he.cell hS];exact hc i j c hj) (fun i j c hj=>ih i j c hj (fun _ _ h=>h))
 |fn f caps vs hl hr ih=>exact .fn f caps vs hl (fun i c v h1 h2=>ih i c v h1 h2 hm)
 |bm f first vs hl hr ih=>exact .bm f first vs hl (fun i c v h1 h2=>ih i c v h1 h2 hm)
 |ifc t v=>exact .ifc t v
 |agg cs vs hl hr ih=>exact .agg cs vs hl (fun i c v h1 h2=>ih i c v h1 h2 hm)
 |tup cs vs hl hr ih=>exact .tup cs vs hl (fun i c v h1 h2=>ih i c v h1 h2 hm)
 |mp b p h=>exact .mp b p (hm _ _ h)
 |yl b p h=>exact .yl b p (hm _ _ h)
 |tp b p ty h ht=>exact .tp b p ty (hm _ _ h) ht
 |sd b i p ty o h ht=>exact .sd b i p ty o (hm _ _ h) ht
 |ts b off len cap p ty o h h1 h2 h3 h4 ht=>exact .ts b off len cap p ty o (hm _ _ h) h1 h2 h3 h4 ht
 |u8 n=>exact .u8 n
theorem VR.up {w:World} {S:Nat→Prop} {m:Pm} {a:AV} {v:Value} (h:VR w S (fun _=>none) a v):VR w S m a v:=
 h.mono (Ext.refl _ _) (fun _ h=>h) (fun _ _ h=>by cases h)
def CR (w:World) (S:Nat→Prop) (m:Pm) (p:Pl):AO→Prop
 | .cells es=>∃arr e,w.heap[p.blk]?=some (.cells arr e (0,0))∧es.length=p.ext∧p.ext≤p.room∧p.off+p.room*p.sz≤arr.size∧
    (∀(i:Nat) (l:List AV),es[i]?=some l→l.length=p.sz∧l.all scal=true)∧
    (∀i j c,getc es i j=some c→∃v,arr[p.off+i*p.sz+j]?=some v∧VR w S m c v)∧TyC p arr e
 | .map es=>∃entries clock,w.heap[p.blk]?=some (.map entries clock)∧entries.size=es.length∧
    (∀(i:Nat) (k x:AV) (e:MapEntry),es[i]?=some (k,x)→entries[i]?=some e→VR w S m k e.key∧VR w S m x e.val)∧clock=entries.size∧∀(i:Nat) (e:MapEntry),entries[i]?=some e→e.born=i
 | .loop N ps assign body t st jump=>∃rec:Loop,w.heap[p.blk]?=some (.loop rec)∧rec.state=st∧rec.pending=jump∧rec.assign=assign∧rec.body=body∧rec.params.toList=ps∧rec.tmps.size=N∧
    ∀x,VR w S m (t x) (rec.tmps.getD x undef)
theorem CR.mono {w w':World} {S S':Nat→Prop} {m m':Pm} {p:Pl} {o:AO} (h:CR w S m p o)
  (he:Ext S w w') (hs:∀i,S i→S' i) (hm:∀b p,m b=some p→m' b=some p) (hb:w'.heap[p.blk]?=w.heap[p.blk]?):CR w' S' m' p o:=by
 cases o with
 |cells es=>
  obtain⟨arr,e,h1,h2,h2',h3,h4,h5,h6⟩:=h;refine⟨arr,e,hb.trans h1,h2,h2',h3,h4,fun i j c hc=>?_,h6⟩;obtain⟨v,hv,hr⟩:=h5 i j c hc;exact⟨v,hv,hr.mono he hs hm⟩
 |map es=>
  obtain⟨en,cl,h1,h2,h3,h4,h5⟩:=h;refine⟨en,cl,hb.trans h1,h2,fun i k x e h h'=>?_,h4,h5⟩;obtain⟨ha,hb⟩:=h3 i k x e h h';exact⟨ha.mono he hs hm,hb.mono he hs hm⟩
 |loop N ps assign body t st jump=>
  obtain⟨rec,h1,h2,h3,h4,h5,h6,h7,h8⟩:=h;exact⟨rec,hb.trans h1,h2,h3,h4,h5,h6,h7,fun x=>(h8 x).mono he hs hm⟩
def gT:List (Nat×AV):=[(8,.rp [.ifc] 0)]
def gl:List (Nat×AV)→Nat→Option AV
 |[],_=>none
 |(k,a)::l,g=>if k=g then some a else gl l g
structure Rel (w:World) (S F:Nat→Prop) (m:Pm) (g:Heap):Prop where
 content:∀b o p,g b=some o→m b=some p→CR w S m p o
 disj:∀b₁ b₂ o₁ o₂ p₁ p₂,g b₁=some o₁→g b₂=some o₂→m b₁=some p₁→m b₂=some p₂→b₁≠b₂→p₁.blk≠p₂.blk
 apart:∀b o p,g b=some o→m b=some p→¬S p.blk∧¬F p.blk
 inS:∀k,S k→k<w.heap.size
 inF:∀k,F k→k<w.heap.size
 inm:∀b p,m b=some p→p.blk<w.heap.size
 glob:∀k a,gl gT k=some a→VR w S (fun _=>none) a (.pointer (some ⟨k,0,none⟩))
def TR (w:World) (S:Nat→Prop) (m:Pm) (N:Nat) (t:Fr) (a:Act):Prop:=
 a.tmps.size=N∧∀x,VR w S m (t x) (a.tmps.getD x undef)
theorem TR.mono {w w':World} {S S':Nat→Prop} {m m':Pm} {N:Nat} {t:Fr} {a:Act} (h:TR w S m N t a)
  (he:Ext S w w') (hs:∀i,S i→S' i) (hm:∀b p,m b=some p→m' b=some p):TR w' S' m' N t a:=
 ⟨h.1,fun x=>(h.2 x).mono he hs hm⟩
def put (t:Fr) (d:Option Nat) (v:AV):Fr:=
 match d with
 |some d=>fun x=>if x=d then v else t x
 |none=>t
def inN (N:Nat) (d:Option Nat):Bool:=
 match d with
 |some d=>d<N
 |none=>true
theorem getD_put {a:Act} {N:Nat} (hs:a.tmps.size=N) {d:Option Nat} (hd:inN N d=true) (u:Value) (x:Nat):
  (a.put d u).tmps.getD x undef=if d=some x then u else a.tmps.getD x undef:=by
 cases d with
 |none=>simp[Act.put]
 |some d=>
  simp only[inN,decide_eq_true_eq] at hd;simp only[Act.put,Array.getD_eq_getD_getElem?,Option.some.injEq];by_cases hx:d=x
  ·subst hx;have:d<a.tmps.size:=by omega
   simp[this]
  ·rw[if_neg hx,Array.getElem?_setIfInBounds_ne hx]
theorem TR.put {w:World} {S:Nat→Prop} {m:Pm} {N:Nat} {t:Fr} {a:Act} (h:TR w S m N t a) {d:Option Nat} {v:AV} {u:Value} (hd:inN N d=true)
  (hv:VR w S m v u):TR w S m N (put t d v) (a.put d u):=by
 refine⟨by cases d<;>simpa[Act.put] using h.1,fun x=>?_⟩;rw[getD_put h.1 hd]
 cases d with
 |none=>simpa[Av.put] using h.2 x
 |some d=>
  by_cases hx:d=x
  ·subst hx;simpa[Av.put] using hv
  ·have hx':¬x=d:=fun e=>hx e.symm
   simpa[Av.put,hx,hx'] using h.2 x
end Go.Av
namespace Go.Av
inductive EK where
 |int (k:IntKind)|bool|str
 deriving DecidableEq
inductive TK where
 |plain
 |bool
 |int (k:IntKind)
 |str
 |struct (fs:List (Nat×Nat×Bool))
 |array (n esz:Nat) (eagg:Bool)
 |slice (esz ebytes:Nat) (ezero:List AV)
 |map (keq:List EK) (vzero:AV)
 |ptr (esz:Nat) (elem:TypeId) (lies:Bool)
 |iface
 |upr
structure TI where
 size:Nat
 agg:Bool
 kind:TK
 zero:List AV
 eqk:Option (List EK)
 elem:Option TypeId:=none
 zv:Option AV:=none
abbrev Tab:=Nat→Option TI
def cellsOf:AV→Option (List AV)
 | .agg cs=>some cs
 | .any=>none
 | .tup _=>none
 |a=>some [a]
def ofCells (agg:Bool) (cs:List AV):Option AV:=
 if agg then some (.agg cs) else match cs with
  |[c]=>some c
  |_=>none
def cv1:Value→Option AV
 | .bool b=>some (.bool b)
 | .int k n=>some (.int k n)
 | .string s=>some (.str s)
 | .pointer none=>some .nilp
 | .slice none 0 0=>some .nils
 | .map none=>some .nilm
 | .nilFunc=>some .nilf
 | .nilIface=>some .nili
 |_=>none
def cvs:List Value→Option (List AV)
 |[]=>some []
 |v::vs=>match cv1 v,cvs vs with
  |some a,some as=>some (a::as)
  |_,_=>none
def cv:Value→Option AV
 | .agg vs=>(cvs vs.toList).map .agg
 |v=>cv1 v
def ev (t:Fr):Operand→Option AV
 | .tmp x=>some (t x)
 | .const v=>cv v
 | .func f=>some (.fn f [])
 | .global g=>gl gT g
def evs (t:Fr):List Operand→Option (List AV)
 |[]=>some []
 |o::os=>match ev t o,evs t os with
  |some a,some as=>some (a::as)
  |_,_=>none
mutual
def AV.beq:AV→AV→Bool
 | .any,.any=>true
 | .bool a,.bool b=>a==b
 | .int k a,.int l b=>decide (k=l) && decide (a=b)
 | .str a,.str b=>decide (a=b)
 | .nilp,.nilp=>true
 | .nilf,.nilf=>true
 | .nili,.nili=>true
 | .nils,.nils=>true
 | .emp,.emp=>true
 | .emn,.emn=>true
 | .yl a,.yl b=>a==b
 | .tp a b,.tp x y=>a==x && b==y
 | .sd a b c,.sd x y z=>a==x && b==y && c==z
 | .ts a b c d e,.ts x y z w v=>a==x && b==y && c==z && d==w && e==v
 | .u8,.u8=>true
 | .nilm,.nilm=>true
 | .ifc,.ifc=>true
 | .ptr a b c,.ptr x y z=>a==x && b==y && c==z
 | .rp a b,.rp x y=>AV.beqs a x && b==y
 | .sl a b c d,.sl x y z w=>a==x && b==y && c==z && d==w
 | .ro a,.ro b=>AV.beqss a b
 | .fn a b,.fn x y=>decide (a=x) && AV.beqs b y
 | .bm a b,.bm x y=>decide (a=x) && AV.beqs b y
 | .agg a,.agg b=>AV.beqs a b
 | .tup a,.tup b=>AV.beqs a b
 | .mp a,.mp b=>a==b
 |_,_=>false
def AV.beqs:List AV→List AV→Bool
 |[],[]=>true
 |a::l,b::m=>AV.beq a b && AV.beqs l m
 |_,_=>false
def AV.beqss:List (List AV)→List (List AV)→Bool
 |[],[]=>true
 |a::l,b::m=>AV.beqs a b && AV.beqss l m
 |_,_=>false
end
mutual
theorem AV.beq_eq:∀(a b:AV),AV.beq a b=true→a=b
 |a,b,h=>by
  cases a<;>cases b<;>simp[AV.beq] at h ⊢
  case bool.bool=>exact h
  case int.int=>exact h
  case str.str=>exact h
  case ptr.ptr=>exact⟨h.1.1,h.1.2,h.2⟩
  case rp.rp a i b j=>exact⟨AV.beqs_eq _ _ h.1,h.2⟩
  case sl.sl=>exact⟨h.1.1.1,h.1.1.2,h.1.2,h.2⟩
  case ro.ro=>exact AV.beqss_eq _ _ h
  case fn.fn=>exact⟨h.1,AV.beqs_eq _ _ h.2⟩
  case bm.bm=>exact⟨h.1,AV.beqs_eq _ _ h.2⟩
  case agg.agg=>exact AV.beqs_eq _ _ h
  case tup.tup=>exact AV.beqs_eq _ _ h
  case mp.mp=>exact h
  case yl.yl=>exact h
  case tp.tp=>exact h
  case sd.sd=>exact⟨h.1.1,h.1.2,h.2⟩
  case ts.ts=>exact⟨h.1.1.1.1,h.1.1.1.2,h.1.1.2,h.1.2,h.2⟩
theorem AV.beqs_eq:∀(a b:List AV),AV.beqs a b=true→a=b
 |[],[],_=>rfl
 |[],_::_,h=>by simp[AV.beqs] at h
 |_::_,[],h=>by simp[AV.beqs] at h
 |a::l,b::m,h=>by
  simp only[AV.beqs,Bool.and_eq_true] at h;rw[AV.beq_eq a b h.1,AV.beqs_eq l m h.2]
theorem AV.beqss_eq:∀(a b:List (List AV)),AV.beqss a b=true→a=b
 |[],[],_=>rfl
 |[],_::_,h=>by simp[AV.beqss] at h
 |_::_,[],h=>by simp[AV.beqss] at h
 |a::l,b::m,h=>by
  simp only[AV.beqss,Bool.and_eq_true] at h;rw[AV.beqs_eq a b h.1,AV.beqss_eq l m h.2]
end
inductive Query where
 |seg (i off sz:Nat)
 |key (ks:List EK) (k:AV) (d:Option AV)
def oBeq:Option AV→Option AV→Bool
 |none,none=>true
 |some a,some b=>AV.beq a b
 |_,_=>false
theorem oBeq_eq {a b:Option AV} (h:oBeq a b=true):a=b:=by
 cases a<;>cases b<;>simp[oBeq] at h ⊢
 exact AV.beq_eq _ _ h
def Query.beq:Query→Query→Bool
 | .seg a b c,.seg x y z=>a==x && b==y && c==z
 | .key a b c,.key x y z=>decide (a=x) && AV.beq b y && oBeq c z
 |_,_=>false
theorem Query.beq_eq {p q:Query} (h:Query.beq p q=true):p=q:=by
 cases p<;>cases q<;>simp[Query.beq] at h ⊢
 ·exact⟨h.1.1,h.1.2,h.2⟩
 ·exact⟨h.1.1,AV.beq_eq _ _ h.1.2,oBeq_eq h.2⟩
inductive Cls where
 |P|L|Q|F|W
 |R (b:Nat) (q:Query)|N (s:Nat)|K (l:List (Nat×Query)) (s:List Nat)
def Cls.w:Cls→Bool
 | .W| .K _ _=>true
 |_=>false
def Cls.needs (c:Cls) (n0 b:Nat):Prop:=c≠.P∧(∀s,c≠.N s)∧(c=.L→b<n0)∧∀b0 q,c≠.R b0 q
abbrev Upd:=List (Nat×Option AO)
def upd (h:Heap) (b:Nat) (o:Option AO):Heap:=fun x=>if x=b then o else h x
def upds (h:Heap):Upd→Heap
 |[]=>h
 |(b,o)::l=>upds (upd h b o) l
abbrev Res:=Option (Cls×AV×Upd)
def rdCells (h:Heap) (sz:Nat):AV→Option (List AV)
 | .ptr b i off=>match h b with
   |some (.cells es)=>match es[i]? with
    |some e=>if off+sz≤e.length then some ((e.drop off).take sz) else none
    |none=>none
   |_=>none
 | .rp cells off=>if off+sz≤cells.length then some ((cells.drop off).take sz) else none
 |_=>none
def below (n0:Nat):AV→Bool
 | .ptr b _ _| .sl b _ _ _| .mp b=>b<n0
 |_=>true
def rdCls (n0:Nat) (a:AV):Cls:=if below n0 a then .L else .Q
def aLoad (ti:TI) (h:Heap) (n0:Nat) (a:AV):Res:=
 match rdCells h ti.size a with
 |some cs=>match ofCells ti.agg cs with
  |some v=>some (rdCls n0 a,v,[])
  |none=>none
 |none=>none
def over (e:List AV) (off:Nat) (cs:List AV):List AV:=e.take off++cs++e.drop (off+cs.length)
def aStore (ti:TI) (h:Heap) (a x:AV):Res:=
 match a,cellsOf x with
 | .ptr b i off,some cs=>match h b with
   |some (.cells es)=>match es[i]? with
    |some e=>if off+cs.length≤e.length∧cs.length=ti.size∧cs.all scal then some (.W,.tup [],[(b,some (.cells (es.set i (over e off cs))))]) else none
    |none=>none
   |_=>none
 |_,_=>none
def aAlloc (ti:TI) (s:Nat):Res:=if ti.zero.all scal then some (.L,.ptr s 0 0,[(s,some (.cells [ti.zero]))]) else none
def aBox (s:Nat) (x:AV):Res:=
 match cellsOf x with
 |some cs=>if cs.all scal then some (.L,.ptr s 0 0,[(s,some (.cells [cs]))]) else none
 |none=>none
def fill (place:Nat→Option (Nat×Nat)) (cells:List AV):List (Nat×AV)→Option (List AV)
 |[]=>some cells
 |(i,v)::rest=>match place i,cellsOf v with
  |some (off,size),some cs=>if cs.length=size∧off+size≤cells.length then fill place (over cells off cs) rest else none
  |_,_=>none
def evp (t:Fr):List (Nat×Operand)→Option (List (Nat×AV))
 |[]=>some []
 |(i,o)::os=>match ev t o,evp t os with
  |some a,some as=>some ((i,a)::as)
  |_,_=>none
def aBuild (ti:TI) (ps:List (Nat×AV)):Res:=
 match ti.kind with
 | .struct fs=>match fill (fun i=>(fs[i]?).map fun f=>(f.1,f.2.1)) ti.zero ps with
   |some cs=>some (.P,.agg cs,[])
   |none=>none
 | .array _ esz _=>match fill (fun i=>some (i*esz,esz)) ti.zero ps with
   |some cs=>some (.P,.agg cs,[])
   |none=>none
 |_=>none
def fillS (esz:Nat) (es:List (List AV)):List (Nat×AV)→Option (List (List AV))
 |[]=>some es
 |(i,v)::rest=>match cellsOf v with
  |some cs=>if cs.length=esz∧i<es.length∧cs.all scal then fillS esz (es.set i cs) rest else none
  |none=>none
def aBuildSlice (ti:TI) (len s:Nat) (ps:List (Nat×AV)):Res:=
 match ti.kind with
 | .slice esz _ ez=>if len=0 then (if ps.isEmpty then some (.L,.emn,[]) else none) else
   if len*esz≤16777216∧ez.length=esz∧0<esz∧ez.all scal then
    match fillS esz (List.replicate len ez) ps with
    |some es=>some (.L,.sl s 0 len esz,[(s,some (.cells es))])
    |none=>none
   else none
 |_=>none
def aMake (ti:TI) (s:Nat) (x y:AV):Res:=
 match ti.kind,x,y with
 | .slice esz eb ez,.int _ n,.int _ m=>if n=m∧0≤n∧n*eb≤140737488355328∧0<eb∧0<esz∧ez.length=esz∧ez.all scal then
    some (.L,.sl s 0 n.toNat esz,[(s,some (.cells (List.replicate n.toNat ez)))]) else none
 |_,_,_=>none
def aField (ti:TI) (a:AV) (f:Nat):Res:=
 match ti.kind with
 | .struct fs=>match fs[f]? with
   |some (o,sz,_)=>if sz=0 then none else match a with
    | .ptr b i off=>some (.P,.ptr b i (off+o),[])
    | .rp cs off=>some (.P,.rp cs (off+o),[])
    |_=>none
   |none=>none
 |_=>none
def aFieldV (ti:TI) (a:AV) (f:Nat):Res:=
 match ti.kind,a with
 | .struct fs,.agg cs=>match fs[f]? with
   |some (o,sz,g)=>if o+sz≤cs.length then match ofCells g ((cs.drop o).take sz) with
     |some v=>some (.P,v,[])
     |none=>none
    else none
   |none=>none
 |_,_=>none
def aIndexAddr (ti:TI) (a ix:AV):Res:=
 match ti.kind,a,ix with
 | .slice esz _ _,.sl b off len sz,.int _ i=>if 0≤i∧i<(len:Int)∧sz=esz then some (.P,.ptr b (off+i.toNat) 0,[]) else none
 | .slice esz _ _,.ro es,.int _ i=>if 0≤i then match es[i.toNat]? with
    |some e=>if e.length=esz then some (.P,.rp e 0,[]) else none
    |none=>none
   else none
 | .array n esz _,.ptr b j off,.int _ i=>if 0≤i∧i<(n:Int) then some (.P,.ptr b j (off+i.toNat*esz),[]) else none
 | .array n esz _,.rp cs off,.int _ i=>if 0≤i∧i<(n:Int) then some (.P,.rp cs (off+i.toNat*esz),[]) else none
 |_,_,_=>none
def aIndex (ti:TI) (a ix:AV):Res:=
 match ti.kind,a,ix with
 | .array n esz g,.agg cs,.int _ i=>if 0≤i∧i<(n:Int)∧i.toNat*esz+esz≤cs.length then match ofCells g ((cs.drop (i.toNat*esz)).take esz) with
    |some v=>some (.P,v,[])
    |none=>none
   else none
 | .str,.str s,.int _ i=>if 0≤i then match s[i.toNat]? with
    |some b=>some (.P,.int .u8 b.toNat,[])
    |none=>none
   else none
 |_,_,_=>none
def bd (d:Nat):Option AV→Option Nat
 |none=>some d
 |some (.int _ i)=>if 0≤i then some i.toNat else none
 |_=>none
def aSlice (ti:TI) (a:AV) (lo hi mx:Option AV):Res:=
 match ti.kind,a,mx with
 | .slice esz _ _,.sl b off len sz,none=>match bd len hi,bd 0 lo with
   |some h,some l=>if h≤len∧l≤h∧sz=esz then some (.P,if l=0 then .sl b off h sz else if l=h then .ro [] else .sl b (off+l) (h - l) sz,[]) else none
   |_,_=>none
 | .slice esz _ _,.ro es,none=>match bd es.length hi,bd 0 lo with
   |some h,some l=>if h≤es.length∧l≤h∧(∀e∈es,e.length=esz) then some (.P,.ro ((es.drop l).take (h - l)),[]) else none
   |_,_=>none
 | .slice _ _ _,.nils,none=>match bd 0 hi,bd 0 lo with
   |some 0,some 0=>some (.P,.nils,[])
   |_,_=>none
 | .slice _ _ _,.emp,none=>match bd 0 hi,bd 0 lo with
   |some 0,some 0=>some (.P,.emp,[])
   |_,_=>none
 | .slice _ _ _,.emn,none=>match bd 0 hi,bd 0 lo with
   |some 0,some 0=>some (.P,.emn,[])
   |_,_=>none
 | .slice _ _ _,.sl _ _ _ _,some (.int _ 0)| .slice _ _ _,.emn,some (.int _ 0)=>match bd 1 hi,bd 0 lo with
   |some 0,some 0=>some (.P,.emn,[])
   |_,_=>none
 | .slice _ _ _,.ro _,some (.int _ 0)| .slice _ _ _,.nils,some (.int _ 0)| .slice _ _ _,.emp,some (.int _ 0)=>match bd 1 hi,bd 0 lo with
   |some 0,some 0=>some (.P,.emp,[])
   |_,_=>none
 | .str,.str s,none=>match bd s.size hi,bd 0 lo with
   |some h,some l=>if h≤s.size∧l≤h then some (.P,.str (s.extract l h),[]) else none
   |_,_=>none
 |_,_,_=>none
def bitsOf (op:BinOp) (k:IntKind) (x y:Int):Option Int:=
 let a:=BitVec.ofInt k.bits x
 let b:=BitVec.ofInt k.bits y
 match op with
 | .and=>some (k.wrap (a &&& b).toNat)
 | .or=>some (k.wrap (a|||b).toNat)
 | .xor=>some (k.wrap (a^^^b).toNat)
 | .andNot=>some (k.wrap (a &&& ~~~b).toNat)
 |_=>none
def eq1:EK→AV→AV→Option Bool
 | .int k,.int k1 a,.int k2 b=>if k1=k∧k2=k then some (a==b) else none
 | .bool,.bool a,.bool b=>some (a==b)
 | .str,.str a,.str b=>some (a==b)
 |_,_,_=>none
def eqs:List EK→List AV→List AV→Option Bool
 |[],[],[]=>some true
 |k::ks,x::xs,y::ys=>match eq1 k x y,eqs ks xs ys with
  |some a,some b=>some (a && b)
  |_,_=>none
 |_,_,_=>none
def aEq (ti:Option TI) (x y:AV):Option Bool:=
 match x,y with
 | .bool a,.bool b=>match ti.map (·.kind) with
   |some TK.bool=>some (a==b)
   |_=>none
 | .agg xs,.agg ys=>match ti with
   |some ti=>match ti.eqk with
    |some ks=>eqs ks xs ys
    |none=>none
   |none=>none
 |_,_=>none
def aBin (Θ:Tab) (op:BinOp) (ty:Nat) (x y:AV):Option AV:=
 match op,x,y with
 | .shl,.int k a,.int _ b=>if 0≤b then some (.int k (k.wrap (a*2^(min b.toNat k.bits)))) else none
 | .shr,.int k a,.int _ b=>if 0≤b then some (.int k (a.fdiv (2^(min b.toNat k.bits)))) else none
 | .add,.int k a,.int k' b=>if k=k' then some (.int k (k.wrap (a+b))) else none
 | .sub,.int k a,.int k' b=>if k=k' then some (.int k (k.wrap (a - b))) else none
 | .mul,.int k a,.int k' b=>if k=k' then some (.int k (k.wrap (a*b))) else none
 | .quo,.int k a,.int k' b=>if k=k'∧b≠0 then some (.int k (k.wrap (a.tdiv b))) else none
 | .rem,.int k a,.int k' b=>if k=k'∧b≠0 then some (.int k (a.tmod b)) else none
 | .and,.int k a,.int k' b| .or,.int k a,.int k' b| .xor,.int k a,.int k' b| .andNot,.int k a,.int k' b=>
   if k=k' then (bitsOf op k a b).map (.int k) else none
 | .eql,.int k a,.int k' b=>if k=k' then some (.bool (a==b)) else none
 | .neq,.int k a,.int k' b=>if k=k' then some (.bool (a !=b)) else none
 | .lss,.int k a,.int k' b=>if k=k' then some (.bool (a<b)) else none
 | .leq,.int k a,.int k' b=>if k=k' then some (.bool (a≤b)) else none
 | .gtr,.int k a,.int k' b=>if k=k' then some (.bool (a>b)) else none
 | .geq,.int k a,.int k' b=>if k=k' then some (.bool (a≥b)) else none
 | .eql,.bool a,.bool b=>(aEq (Θ ty) (.bool a) (.bool b)).map .bool
 | .neq,.bool a,.bool b=>(aEq (Θ ty) (.bool a) (.bool b)).map fun b=> .bool (!b)
 | .eql,.agg xs,.agg ys=>(aEq (Θ ty) (.agg xs) (.agg ys)).map .bool
 | .neq,.agg xs,.agg ys=>(aEq (Θ ty) (.agg xs) (.agg ys)).map fun b=> .bool (!b)
 |_,_,_=>none
def aNil (Θ:Tab) (op:BinOp) (ty:Nat) (x:AV) (y:Operand):Option AV:=
 match op,x,y with
 | .eql,.sl _ _ _ _,.const (.slice none 0 0)=>match (Θ ty).map (·.kind) with
   |some (TK.slice _ _ _)=>some (.bool false)
   |_=>none
 |_,_,_=>none
def orA:Option AV→Option AV→Option AV
 |some v,_=>some v
 |none,o=>o
def aUn (op:UnOp) (x:AV):Option AV:=
 match op,x with
 | .not,.bool b=>some (.bool !b)
 | .neg,.int k n=>some (.int k (k.wrap (0 - n)))
 |_,_=>none
def aConv (Θ:Tab) (dst:Nat) (x:AV):Option AV:=
 match (Θ dst).map (·.kind),x with
 |some (TK.int k),AV.int _ n=>some (.int k (k.wrap n))
 |some TK.str,AV.str s=>some (.str s)
 |_,_=>none
def elems (h:Heap) (esz:Nat):AV→Option (List (List AV))
 | .nils=>some []
 | .emp=>some []
 | .emn=>some []
 | .str s=>if esz=1 then some (s.data.toList.map fun b=>[.int .u8 b.toNat]) else none
 | .ro es=>if ∀e∈es,e.length=esz then some es else none
 | .sl b off len sz=>match h b with
   |some (.cells es)=>if off+len≤es.length∧sz=esz then some ((es.drop off).take len) else none
   |_=>none
 |_=>none
def aAppend (ti:TI) (h:Heap) (n0 s:Nat) (x y:AV):Res:=
 match ti.kind with
 | .slice esz eb ez=>if 0<esz∧0<eb∧ez.length=esz then match elems h esz y with
   |some new=>match x with
    | .nils=>if new.isEmpty then some (rdCls n0 y,.nils,[]) else if new.length*eb≤140737488355328 then some (rdCls n0 y,.sl s 0 new.length esz,[(s,some (.cells new))]) else none
    | .emp=>if new.isEmpty then some (rdCls n0 y,.emp,[]) else if new.length*eb≤140737488355328 then some (rdCls n0 y,.sl s 0 new.length esz,[(s,some (.cells new))]) else none
    | .emn=>if new.isEmpty then some (rdCls n0 y,.emn,[]) else if new.length*eb≤140737488355328 then some (rdCls n0 y,.sl s 0 new.length esz,[(s,some (.cells new))]) else none
    | .sl b off len sz=>match h b with
      |some (.cells es)=>
       if sz=esz∧off+len≤es.length∧(len+new.length)*eb≤140737488355328 then
        if off+len+new.length≤es.length∧off+len<es.length then
         some (.W,.sl b off (len+new.length) sz,[(b,some (.cells (es.take (off+len)++new++es.drop (off+len+new.length))))])
        else if off+len=es.length then
         some (if n0≤b then .F else .W,.sl s 0 (len+new.length) sz,[(b,none),(s,some (.cells ((es.drop off)++new)))])
        else none
       else none
      |_=>none
    |_=>none
   |none=>none
   else none
 |_=>none
def aLen (h:Heap) (n0:Nat):AV→Res
 | .nils=>some (.P,.int .i64 0,[])
 | .emp=>some (.P,.int .i64 0,[])
 | .emn=>some (.P,.int .i64 0,[])
 | .sl _ _ len _=>some (.P,.int .i64 len,[])
 | .ro es=>some (.P,.int .i64 es.length,[])
 | .str s=>some (.P,.int .i64 s.size,[])
 | .nilm=>some (.P,.int .i64 0,[])
 | .mp b=>match h b with
   |some (.map es)=>some (rdCls n0 (.mp b),.int .i64 es.length,[])
   |_=>none
 |_=>none
def lenT (ti:TI):AV→Bool
 | .nils| .emp| .emn| .sl _ _ _ _| .ro _=>match ti.kind with
   | .slice _ _ _=>true
   |_=>false
 | .str _=>match ti.kind with
   | .str=>true
   |_=>false
 | .mp _| .nilm=>match ti.kind with
   | .map _ _=>true
   |_=>false
 |_=>false
def minInt:List AV→Option AV
 |[.int k x,.int k' y]=>if k=k' then some (.int k (if y<x then y else x)) else none
 |_=>none
def cellEq (ks:List EK) (x y:AV):Option Bool:=
 match x,y with
 | .agg xs,.agg ys=>if 2≤ks.length then eqs ks xs ys else none
 | .agg _,_=>none
 |_,.agg _=>none
 |x,y=>match cellsOf x,cellsOf y with
  |some xs,some ys=>eqs ks xs ys
  |_,_=>none
def find (ks:List EK) (k:AV):List (AV×AV)→Option (Option AV)
 |[]=>some none
 |(k',x)::l=>match cellEq ks k k' with
  |some true=>some (some x)
  |some false=>find ks k l
  |none=>none
def replace (ks:List EK) (k v:AV):List (AV×AV)→Option (List (AV×AV))
 |[]=>some [(k,v)]
 |(k',x)::l=>match cellEq ks k k' with
  |some true=>some ((k,v)::l)
  |some false=>(replace ks k v l).map ((k',x):: ·)
  |none=>none
def rdQ (q:Query) (o:Option AO):Option (List AV):=
 match q,o with
 | .seg i off sz,some (.cells es)=>match es[i]? with
   |some e=>if off+sz≤e.length then some ((e.drop off).take sz) else none
   |none=>none
 | .key ks k d,some (.map es)=>match find ks k es with
   |some (some v)=>some [v]
   |some none=>some d.toList
   |none=>none
 |_,_=>none
def keyOK (ks:List EK) (k:AV):Bool:=(cellEq ks k k).isSome
def aLookup (ti:TI) (h:Heap) (n0:Nat) (x k:AV) (ok:Bool):Res:=
 match ti.kind with
 | .map keq vz=>
   let es:Option (List (AV×AV)):=match x with
    | .nilm=>some []
    | .mp b=>match h b with
      |some (.map es)=>some es
      |_=>none
    |_=>none
   match es with
   |some es=>if keyOK keq k then match find keq k es with
    |some (some v)=>some (rdCls n0 x,if ok then .tup [v,.bool true] else v,[])
    |some none=>some (rdCls n0 x,if ok then .tup [vz,.bool false] else vz,[])
    |none=>none
    else none
   |none=>none
 |_=>none
def aMapUpdate (ti:TI) (h:Heap) (x k v:AV):Res:=
 match ti.kind,x with
 | .map keq _,.mp b=>match h b with
   |some (.map es)=>if keyOK keq k then match find keq k es with
    |some none=>some (.W,.tup [],[(b,some (.map (es++[(k,v)])))])
    |_=>none
    else none
   |_=>none
 |_,_=>none
def P1 (v:Option AV):Res:=v.map fun v=>(.P,v,[])
def srcT (ti:TI) (y:AV):Bool:=
 match ti.kind,y with
 | .str,.str _=>true
 |_,.str _=>false
 | .slice _ _ _,_=>true
 |_,_=>false
def aBuiltin (Θ:Tab) (b:Builtin) (ts:Array TypeId) (as:List AV) (h:Heap) (n0 s:Nat):Res:=
 match b with
 | .len=>match as,(ts[0]?).bind Θ with
   |[x],some ti=>if lenT ti x then aLen h n0 x else none
   |_,_=>none
 | .append=>match as,(ts[0]?).bind Θ,(ts[1]?).bind Θ with
   |[x,y],some ti,some ti2=>if srcT ti2 y then aAppend ti h n0 s x y else none
   |_,_,_=>none
 | .min=>P1 (minInt as)
 |_=>none
def aop0 (Θ:Tab) (op:Op) (t:Fr) (h:Heap) (n0 s:Nat):Res:=
 match op with
 | .move x| .assign x=>P1 (ev t x)
 | .pick c a b=>match ev t c,ev t a,ev t b with
   |some (.bool c),some a,some b=>P1 (some (if c then a else b))
   |_,_,_=>none
 | .alloc ty=>match Θ ty with
   |some ti=>aAlloc ti s
   |none=>none
 | .box _ x=>match ev t x with
   |some x=>aBox s x
   |none=>none
 | .build ty ps=>match Θ ty,evp t ps.toList with
   |some ti,some ps=>aBuild ti ps
   |_,_=>none
 | .buildSlice ty len ps=>match Θ ty,evp t ps.toList with
   |some ti,some ps=>aBuildSlice ti len s ps
   |_,_=>none
 | .load ty a=>match Θ ty,ev t a with
   |some ti,some a=>aLoad ti h n0 a
   |_,_=>none
 | .store ty a x=>match Θ ty,ev t a,ev t x with
   |some ti,some a,some x=>aStore ti h a x
   |_,_,_=>none
 | .nilCheck x=>match ev t x with
   |some (.ptr b i off)=>P1 (some (.ptr b i off))
   |some (.rp cs off)=>P1 (some (.rp cs off))
   |some (.fn f cs)=>P1 (some (.fn f cs))
   |_=>none
 | .binOp op ty x y _=>match ev t x,ev t y with
   |some x1,some y1=>P1 (orA (aBin Θ op ty x1 y1) (aNil Θ op ty x1 y))
   |_,_=>none
 | .unOp op _ x=>match ev t x with
   |some x=>P1 (aUn op x)
   |none=>none
 | .convert src dst x=>match ev t x,Θ src with
   |some x,some _=>P1 (aConv Θ dst x)
   |_,_=>none
 | .makeFunc fn first caps=>match fn with
   | .func f=>if first.isEmpty then match evs t caps.toList with
      |some cs=>P1 (some (.fn f cs))
      |none=>none
     else none
   |_=>none
 | .makeSlice ty x y=>match Θ ty,ev t x,ev t y with
   |some ti,some x,some y=>aMake ti s x y
   |_,_,_=>none
 | .slice ty x lo hi mx=>match Θ ty,ev t x with
   |some ti,some x=>
    match (match lo with|none=>some none|some o=>(ev t o).map some),(match hi with|none=>some none|some o=>(ev t o).map some),(match mx with|none=>some none|some o=>(ev t o).map some) with
    |some lo,some hi,some mx=>aSlice ti x lo hi mx
    |_,_,_=>none
   |_,_=>none
 | .fieldAddr ty x f=>match Θ ty,ev t x with
   |some ti,some a=>aField ti a f
   |_,_=>none
 | .field ty x f=>match Θ ty,ev t x with
   |some ti,some a=>aFieldV ti a f
   |_,_=>none
 | .indexAddr ty x ix=>match Θ ty,ev t x,ev t ix with
   |some ti,some a,some i=>aIndexAddr ti a i
   |_,_,_=>none
 | .index ty x ix=>match Θ ty,ev t x,ev t ix with
   |some ti,some a,some i=>aIndex ti a i
   |_,_,_=>none
 | .extract x i=>match ev t x with
   |some (.tup cs)=>P1 (cs[i]?)
   |_=>none
 | .makeMap _ r=>if r.isNone then some (.L,.mp s,[(s,some (.map []))]) else none
 | .lookup ty x k ok=>match Θ ty,ev t x,ev t k with
   |some ti,some x,some k=>aLookup ti h n0 x k ok
   |_,_,_=>none
 | .mapUpdate ty x k y=>match Θ ty,ev t x,ev t k,ev t y with
   |some ti,some x,some k,some y=>aMapUpdate ti h x k y
   |_,_,_,_=>none
 | .call c=>match c.callee with
   | .builtin b=>match evs t c.args.toList with
     |some as=>aBuiltin Θ b c.argTypes as h n0 s
     |none=>none
   |_=>none
 |_=>none
def Cls.five:Cls→Bool
 | .P| .L| .Q| .F| .W=>true
 |_=>false
def five (r:Cls×AV×Upd):Res:=if r.1.five then some r else none
end Go.Av
namespace Go.Av
inductive AEx where
 |normal
 |exit (id:Nat)
 |goto (l:Nat)
 |ret
structure OS where
 t:Fr
 h:Heap
 x:Nat
inductive Job where
 |code (N:Nat) (c:Code) (t:Fr) (h:Heap) (n:Nat) (e:AEx) (t':Fr) (h':Heap) (n':Nat)
 |scp (N:Nat) (body c:Code) (t:Fr) (h:Heap) (n:Nat) (e:AEx) (t':Fr) (h':Heap) (n':Nat)
 |op (N:Nat) (ops:Array Oper) (n0 i:Nat) (σ:OS) (c:Cls) (σ':OS)
 |ops (N:Nat) (ops:Array Oper) (n0:Nat) (l:List Nat) (σ:OS) (cs:List Cls) (σ':OS)
 |fn (f:FuncId) (args:List AV) (h:Heap) (n:Nat) (res:AV) (h':Heap) (n':Nat)
def gd (ops:Array Oper) (t:Fr) (o:Oper):Option Bool:=
 match o.guard with
 |none=>some true
 |some (g,want)=>match (ops[g]?).bind (·.dst) with
  |some d=>match t d with
   | .bool b=>some (b==want)
   | .tup []=>some false
   |_=>none
  |none=>some false
mutual
def rf (fr:Bool):Nat→Heap→AV→Option AV
 |0,_,_=>none
 |d+1,h,a=>match a with
  | .any=>some .any
  | .bool b=>some (.bool b)
  | .int k n=>some (.int k n)
  | .str s=>some (.str s)
  | .nilp=>some .nilp
  | .nilf=>some .nilf
  | .nili=>some .nili
  | .nils=>some (.ro [])
  | .emp=>some (.ro [])
  | .emn=>some (.ro [])
  | .nilm=>some .nilm
  | .rp cs off=>if fr then some (.rp cs off) else none
  | .ro es=>if fr∨es=[] then some (.ro es) else none
  | .ptr b i off=>match h b with
    |some (.cells es)=>match es[i]? with
     |some e=>match rfs fr d h e with
      |some e'=>some (.rp e' off)
      |none=>none
     |none=>none
    |_=>none
  | .sl b off len _=>match h b with
    |some (.cells es)=>if off+len≤es.length then match rfe fr d h ((es.drop off).take len) with
      |some es'=>some (.ro es')
      |none=>none
     else none
    |_=>none
  | .fn f cs=>match rfs fr d h cs with
    |some cs'=>some (.fn f cs')
    |none=>none
  | .bm f cs=>match rfs fr d h cs with
    |some cs'=>some (.bm f cs')
    |none=>none
  | .ifc=>some .ifc
  | .agg cs=>match rfs fr d h cs with
    |some cs'=>some (.agg cs')
    |none=>none
  | .tup cs=>match rfs fr d h cs with
    |some cs'=>some (.tup cs')
    |none=>none
  | .mp _=>none
  | .yl _=>none
  | .tp _ _=>none
  | .sd _ _ _=>none
  | .ts _ _ _ _ _=>none
  | .u8=>none
def rfs (fr:Bool):Nat→Heap→List AV→Option (List AV)
 |0,_,_=>none
 |d+1,h,l=>l.mapM (rf fr d h)
def rfe (fr:Bool):Nat→Heap→List (List AV)→Option (List (List AV))
 |0,_,_=>none
 |d+1,h,l=>l.mapM (rfs fr d h)
end
def h0:Heap:=fun _=>none
def ares1 (Θ:Tab) (t:Fr) (h:Heap):ResultVar→Option AV
 | .tmp x=>some (t x)
 | .cell b ty=>match Θ ty with
   |some ti=>match rdCells h ti.size (t b) with
    |some cs=>ofCells ti.agg cs
    |none=>none
   |none=>none
def aresL (Θ:Tab) (t:Fr) (h:Heap):List ResultVar→Option (List AV)
 |[]=>some []
 |r::rs=>match ares1 Θ t h r,aresL Θ t h rs with
  |some a,some as=>some (a::as)
  |_,_=>none
def ares (Θ:Tab) (rs:Array ResultVar) (t:Fr) (h:Heap):Option AV:=
 match aresL Θ t h rs.toList with
 |some [a]=>some a
 |some as=>some (.tup as)
 |none=>none
def preds (o:Oper):List Nat:=o.after.toList.filterMap fun e=>if Region.binds .any e then some e.on else none
def ancOf (acc:List Nat) (o:Oper):Nat:=(preds o).foldl (fun s p=>s|||2^p|||acc.getD p 0) 0
def ancL:List Oper→List Nat→List Nat
 |[],acc=>acc
 |o::os,acc=>ancL os (acc++[ancOf acc o])
def conflict (c d:Cls):Bool:=
 match c,d with
 | .P,_|_,.P=>false
 | .W,_|_,.W=>true
 | .K l _,.R b q| .R b q,.K l _=> !l.any fun x=>x.1==b && x.2.beq q
 | .K _ l,.N s| .N s,.K _ l=> !l.contains s
 | .K _ _,_|_,.K _ _=>true
 | .F,.Q| .F,.F| .Q,.F| .F,.R _ _| .R _ _,.F=>true
 |_,_=>false
def drawOK (ops:Array Oper) (cs:List Cls):Bool:=
 let l:=ops.toList
 let A:=ancL l []
 Region.noSelect ops && (List.range l.length).all fun j=>match l[j]? with
  |none=>true
  |some oj=>(preds oj).all (·<j) && (List.range j).all fun i=>match l[i]? with
   |none=>true
   |some oi=>(A.getD j 0).testBit i||(oi.apart ops oj && !conflict (cs.getD i .W) (cs.getD j .W))
def fr0 (args:List AV):Fr:=fun x=>args.getD x .any
end Go.Av
namespace Go.Av
def LR (w:World) (S:Nat→Prop) (m:Pm) (cs:List AV) (vs:List Value):Prop:=
 vs.length=cs.length∧∀(i:Nat) (c:AV) (v:Value),cs[i]?=some c→vs[i]?=some v→VR w S m c v
def ZC (cs:List AV) (z:Value):Prop:=∀w S m,LR w S m cs z.cells.toList
section
variable {w:World} {S:Nat→Prop} {m:Pm}
theorem LR.get {cs:List AV} {vs:List Value} (h:LR w S m cs vs) {i:Nat} {c:AV} (hc:cs[i]?=some c):∃v,vs[i]?=some v∧VR w S m c v:=by
 have hi:i<cs.length:=(List.getElem?_eq_some_iff.1 hc).1;have hi':i<vs.length:=by rw[h.1];exact hi
 exact⟨vs[i],by simp[hi'],h.2 i c _ hc (by simp[hi'])⟩
theorem LR.nil:LR w S m [] []:=⟨rfl,fun i c v h=>by simp at h⟩
theorem LR.cons {c:AV} {v:Value} {cs:List AV} {vs:List Value} (hv:VR w S m c v) (h:LR w S m cs vs):LR w S m (c::cs) (v::vs):=
 ⟨by simp[h.1],fun i a u ha hu=>by
  cases i with
  |zero=>simp at ha hu;subst ha;subst hu;exact hv
  |succ i=>simp at ha hu;exact h.2 i a u ha hu⟩
theorem LR.append {a b:List AV} {x y:List Value} (h:LR w S m a x) (k:LR w S m b y):LR w S m (a++b) (x++y):=by
 refine⟨by simp[h.1,k.1],fun i c v hc hv=>?_⟩;by_cases hi:i<a.length
 ·rw[List.getElem?_append_left hi] at hc;rw[List.getElem?_append_left (by rw[h.1];exact hi)] at hv;exact h.2 i c v hc hv
 ·rw[List.getElem?_append_right (by omega)] at hc;rw[List.getElem?_append_right (by rw[h.1];omega),h.1] at hv;exact k.2 _ c v hc hv
theorem LR.take {a:List AV} {x:List Value} (h:LR w S m a x) (n:Nat):LR w S m (a.take n) (x.take n):=by
 refine⟨by simp[h.1],fun i c v hc hv=>?_⟩;rw[List.getElem?_take] at hc hv;split at hc
 ·rename_i hi;rw[if_pos hi] at hv;exact h.2 i c v hc hv
 ·cases hc
theorem LR.drop {a:List AV} {x:List Value} (h:LR w S m a x) (n:Nat):LR w S m (a.drop n) (x.drop n):=by
 refine⟨by simp[h.1],fun i c v hc hv=>?_⟩;rw[List.getElem?_drop] at hc hv;exact h.2 _ c v hc hv
theorem LR.mono {w':World} {S':Nat→Prop} {m':Pm} {a:List AV} {x:List Value} (h:LR w S m a x)
  (he:Ext S w w') (hs:∀i,S i→S' i) (hm:∀b p,m b=some p→m' b=some p):LR w' S' m' a x:=
 ⟨h.1,fun i c v hc hv=>(h.2 i c v hc hv).mono he hs hm⟩
theorem VR.cells {a:AV} {v:Value} {cs:List AV} (h:VR w S m a v) (hc:cellsOf a=some cs):LR w S m cs v.cells.toList:=by
 cases h<;>simp only[cellsOf,Option.some.injEq,reduceCtorEq] at hc<;>subst hc<;>simp only[Value.cells]
 case agg vs hl hr=>exact⟨hl,hr⟩
 all_goals
  refine LR.cons ?_ LR.nil
 case bool=>exact .bool _
 case int=>exact .int _ _
 case str=>exact .str _
 case nilp=>exact .nilp
 case nilf=>exact .nilf
 case nili=>exact .nili
 case nils=>exact .nils
 case emp=>exact .emp _
 case yl p h=>exact .yl _ _ h
 case emn=>exact .emn _
 case tp=>constructor<;>assumption
 case sd=>constructor<;>assumption
 case ts=>constructor<;>assumption
 case u8=>exact .u8 _
 case nilm=>exact .nilm
 case ptr p h=>exact .ptr _ _ _ p h
 case rp cells off blk o us hS hc hr=>exact .rp _ _ _ _ us hS hc hr
 case sl=>constructor<;>assumption
 case ron=>exact .ron _ _
 case ro es blk o sz cap us hS hz hcap hc hr=>exact .ro _ _ _ _ _ us hS hz hcap hc hr
 case fn f caps vs hl hr=>exact .fn _ _ _ hl hr
 case bm f first vs hl hr=>exact .bm _ _ _ hl hr
 case ifc t v=>exact .ifc _ _
 case mp p h=>exact .mp _ _ h
theorem VR.ofCells {cs:List AV} {vs:List Value} {g:Bool} {a:AV} (h:LR w S m cs vs) (ha:ofCells g cs=some a):
  (g=true→VR w S m a (.agg ⟨vs⟩))∧(g=false→∃v,vs=[v]∧VR w S m a v):=by
 unfold Av.ofCells at ha
 cases g with
 |true=>simp at ha;subst ha;exact⟨fun _=> .agg _ _ h.1 h.2,(fun h=>by cases h)⟩
 |false=>
  simp only[Bool.false_eq_true,if_false] at ha;refine⟨(fun h=>by cases h),fun _=>?_⟩;split at ha
  ·rename_i c
   simp at ha;subst ha;obtain⟨hl,hr⟩:=h
   match vs,hl with
   |[v],_=>exact⟨v,rfl,hr 0 c v rfl rfl⟩
  ·cases ha
theorem VR.scal1 {a:AV} {v:Value} (h:VR w S m a v) (hs:scal a=true):v.oneCell'=true:=by
 cases h<;>first|rfl|(simp[scal] at hs)
end
def KindOK (P:Program) (d:TypeDesc):TK→Prop
 | .plain=>True
 | .bool=>d=.bool
 | .int k=>d=.int k
 | .str=>d=.string
 | .struct fs=>∃fields:Array Field,d=.struct fields∧fs.length=fields.size∧∀(j o s:Nat) (g:Bool),fs[j]?=some (o,s,g)→
    ∃(f:Field) (i:TypeInfo) (d':TypeDesc),fields[j]?=some f∧f.offset=o∧P.info? f.type=some i∧i.size=s∧P.underlying f.type=some d'∧d'.isRow=g
 | .array n esz g=>∃(e:TypeId) (i:TypeInfo) (d':TypeDesc),d=.array n e∧P.info? e=some i∧i.size=esz∧P.underlying e=some d'∧d'.isRow=g
 | .slice esz eb ez=>∃(e:TypeId) (i:TypeInfo) (z:Value),d=.slice e∧P.info? e=some i∧i.size=esz∧i.bytes=eb∧i.zero=some z∧ZC ez z
 | .map keq vz=>∃(k e:TypeId) (i:TypeInfo) (z:Value),d=.map k e∧P.info? e=some i∧i.zero=some z∧(∀w S m,VR w S m vz z)∧
    (∀(x:Value) (w:World) (S:Nat→Prop) (m:Pm) (a:AV),VR w S m a x→keyOK keq a=true→∀b,(Instr.checkKey b 10000 k x).run P w=.ok () w)∧
    (∀(x y:Value) (w:World) (S:Nat→Prop) (m:Pm) (a b:AV) (r:Bool),VR w S m a x→VR w S m b y→cellEq keq a b=some r→(Op.equal k x y).run P w=.ok r w)∧
    ∃dk,P.underlying k=some dk
 | .ptr esz e lies=>∃(i:TypeInfo),d=.pointer e∧P.info? e=some i∧i.size=esz∧(lies=true→liesAt P P.depth e (esz / P.cellsOf e) 0 e 1=true)
 | .iface=>∃ms,d=.interface ms
 | .upr=>d=.unsafePointer
structure TyOK (P:Program) (t:TypeId) (ti:TI):Prop where
 info:∃i z,P.info? t=some i∧i.size=ti.size∧i.zero=some z∧ZC ti.zero z
 und:∃d,P.underlying t=some d∧d.isRow=ti.agg∧KindOK P d ti.kind
 el:∀e,ti.elem=some e→P.underlying t=some (.slice e)
 zv:∀a,ti.zv=some a→∃i z,P.info? t=some i∧i.zero=some z∧∀w S m,VR w S m a z
 eq:∀ks,ti.eqk=some ks→∀(xs ys:List AV) (us vs:List Value) (w:World) (S:Nat→Prop) (m:Pm) (r:Bool),LR w S m xs us→LR w S m ys vs→
  eqs ks xs ys=some r→P.eqGuardType P.depth t=false∧(Op.equal t (.agg ⟨us⟩) (.agg ⟨vs⟩)).run P w=.ok r w
def TabOK (P:Program) (Θ:Tab):Prop:=∀t ti,Θ t=some ti→TyOK P t ti
end Go.Av
namespace Go.Av
def setm (m:Pm) (s:Nat) (p:Pl):Pm:=fun b=>if b=s then some p else m b
theorem setm_same {m:Pm} {s:Nat} {p:Pl}:setm m s p s=some p:=by simp[setm]
theorem setm_ne {m:Pm} {s b:Nat} {p:Pl} (h:b≠s):setm m s p b=m b:=by simp[setm,h]
theorem setm_le {m:Pm} {s:Nat} {p:Pl} (hs:m s=none):∀b q,m b=some q→setm m s p b=some q:=by
 intro b q h;by_cases hb:b=s
 ·subst hb;rw[hs] at h;cases h
 ·rw[setm_ne hb];exact h
theorem upd_same {h:Heap} {b:Nat} {o:Option AO}:upd h b o b=o:=by simp[upd]
theorem upd_ne {h:Heap} {b c:Nat} {o:Option AO} (hc:c≠b):upd h b o c=h c:=by simp[upd,hc]
section
variable {P:Program} {w:World} {S F:Nat→Prop} {m:Pm} {g:Heap}
theorem Rel.birth (h:Rel w S F m g) {s:Nat} (hs:m s=none) {w':World} (he:Ext (fun k=>k<w.heap.size) w w') {p:Pl}
  (hp:w.heap.size≤p.blk) (hp':p.blk<w'.heap.size) {o:AO} (hc:CR w' S (setm m s p) p o):Rel w' S F (setm m s p) (upd g s (some o)):=by
 have hS:Ext S w w':=he.mono h.inS;have old:∀b q,b≠s→setm m s p b=some q→m b=some q:=fun b q hb hq=>by rwa[setm_ne hb] at hq
 refine⟨fun b o' q hg hq=>?_,fun b₁ b₂ o₁ o₂ p₁ p₂ g₁ g₂ q₁ q₂ hne=>?_,fun b o' q hg hq=>?_,fun k hk=>?_,fun k hk=>?_,fun b q hq=>?_,fun k a ha=>(h.glob k a ha).mono hS (fun _ h=>h) (fun _ _ h=>h)⟩
 ·by_cases hb:b=s
  ·subst hb;rw[upd_same] at hg;cases hg;rw[setm_same] at hq;cases hq;exact hc
  ·rw[upd_ne hb] at hg;have hm:=old b q hb hq;exact(h.content b o' q hg hm).mono hS (fun _ h=>h) (setm_le hs) (he.same _ (h.inm b q hm))
 ·by_cases h1:b₁=s
  ·by_cases h2:b₂=s
   ·exact absurd (h1.trans h2.symm) hne
   ·subst h1;rw[setm_same] at q₁;cases q₁;have:=h.inm _ _ (old _ _ h2 q₂);intro e;omega
  ·have k1:=h.inm _ _ (old _ _ h1 q₁);by_cases h2:b₂=s
   ·subst h2;rw[setm_same] at q₂;cases q₂;intro e;omega
   ·rw[upd_ne h1] at g₁;rw[upd_ne h2] at g₂;exact h.disj _ _ _ _ _ _ g₁ g₂ (old _ _ h1 q₁) (old _ _ h2 q₂) hne
 ·by_cases hb:b=s
  ·subst hb;rw[setm_same] at hq;cases hq;exact⟨fun hk=>(by have:=h.inS _ hk;omega),fun hk=>(by have:=h.inF _ hk;omega)⟩
  ·rw[upd_ne hb] at hg;exact h.apart _ _ _ hg (old _ _ hb hq)
 ·exact Nat.lt_of_lt_of_le (h.inS k hk) he.size
 ·exact Nat.lt_of_lt_of_le (h.inF k hk) he.size
 ·by_cases hb:b=s
  ·subst hb;rw[setm_same] at hq;cases hq;exact hp'
  ·exact Nat.lt_of_lt_of_le (h.inm b q (old _ _ hb hq)) he.size
theorem Rel.kill (h:Rel w S F m g) (b:Nat):Rel w S F m (upd g b none):=by
 have old:∀c o,upd g b none c=some o→g c=some o:=fun c o hc=>by
  by_cases e:c=b
  ·subst e;rw[upd_same] at hc;cases hc
  ·rwa[upd_ne e] at hc
 exact⟨fun c o p hg hm=>h.content c o p (old _ _ hg) hm,fun c d o₁ o₂ p₁ p₂ g₁ g₂=>h.disj c d o₁ o₂ p₁ p₂ (old _ _ g₁) (old _ _ g₂),
  fun c o p hg hm=>h.apart c o p (old _ _ hg) hm,h.inS,h.inF,h.inm,h.glob⟩
theorem Rel.less (h:Rel w S F m g) {g':Heap} (hg:∀b o,g' b=some o→g b=some o):Rel w S F m g':=
 ⟨fun c o p hc hm=>h.content c o p (hg _ _ hc) hm,fun c d o₁ o₂ p₁ p₂ g₁ g₂=>h.disj c d o₁ o₂ p₁ p₂ (hg _ _ g₁) (hg _ _ g₂),
  fun c o p hc hm=>h.apart c o p (hg _ _ hc) hm,h.inS,h.inF,h.inm,h.glob⟩
theorem Rel.write (h:Rel w S F m g) {b:Nat} {o:AO} {p:Pl} (hg:g b=some o) (hm:m b=some p) {w':World}
  (he:Ext (fun k=>k≠p.blk) w w') {o':AO} (hc:CR w' S m p o'):Rel w' S F m (upd g b (some o')):=by
 have ha:=h.apart b o p hg hm;have hS:Ext S w w':=he.mono fun k hk e=>ha.1 (e▸hk)
 refine⟨fun c o₁ q hc' hq=>?_,fun b₁ b₂ o₁ o₂ p₁ p₂ g₁ g₂ q₁ q₂ hne=>?_,fun c o₁ q hc' hq=>?_,
  fun k hk=>Nat.lt_of_lt_of_le (h.inS k hk) he.size,fun k hk=>Nat.lt_of_lt_of_le (h.inF k hk) he.size,fun c q hq=>Nat.lt_of_lt_of_le (h.inm c q hq) he.size,fun k a ha=>(h.glob k a ha).mono hS (fun _ h=>h) (fun _ _ h=>h)⟩
 ·by_cases e:c=b
  ·subst e;rw[upd_same] at hc';cases hc';rw[hm] at hq;cases hq;exact hc
  ·rw[upd_ne e] at hc';refine(h.content c o₁ q hc' hq).mono hS (fun _ h=>h) (fun _ _ h=>h) (he.same _ ?_);exact h.disj _ _ _ _ _ _ hc' hg hq hm e
 ·have live:∀c o₁,upd g b (some o') c=some o₁→∃o₂,g c=some o₂:=fun c o₁ hc'=>by
   by_cases e:c=b
   ·exact⟨o,e▸hg⟩
   ·rw[upd_ne e] at hc';exact⟨_,hc'⟩
  obtain⟨_,k₁⟩:=live _ _ g₁;obtain⟨_,k₂⟩:=live _ _ g₂;exact h.disj _ _ _ _ _ _ k₁ k₂ q₁ q₂ hne
 ·by_cases e:c=b
  ·subst e;rw[hm] at hq;cases hq;exact ha
  ·rw[upd_ne e] at hc';exact h.apart _ _ _ hc' hq
theorem Addr.add_n (b o n:Nat):(⟨b,o,none⟩:Addr).add n=⟨b,o+n,none⟩:=Addr.add_mid b o n
theorem getElem?_toList {α:Type} (a:Array α) (i:Nat):a.toList[i]?=a[i]?:=by simp
def At (w:World) (b o:Nat) (vs:List Value):Prop:=∀(j:Nat) (u:Value),vs[j]?=some u→w.cell? ⟨b,o+j,none⟩=some u
theorem cell?_cells {arr:Array Value} {e:TypeId} {fz:Nat×Nat} {b o:Nat} (h:w.heap[b]?=some (.cells arr e fz)):w.cell? ⟨b,o,none⟩=arr[o]?:=by
 simp[World.cell?,h]
theorem CR.seg {p:Pl} {es:List (List AV)} (h:CR w S m p (.cells es)) {i:Nat} {e:List AV} (he:es[i]?=some e) (off sz:Nat) (hl:off+sz≤e.length):
  ∃vs,LR w S m ((e.drop off).take sz) vs∧At w p.blk (p.off+i*p.sz+off) vs:=by
 obtain⟨arr,ty,h1,h2,h2',h3,h4,h5,_⟩:=h;refine⟨(List.range sz).map fun j=>(arr[p.off+i*p.sz+off+j]?).getD undef,⟨by simp;omega,fun j c v hc hv=>?_⟩,fun j u hu=>?_⟩
 ·rw[List.getElem?_take] at hc;split at hc
  ·rename_i hj
   rw[List.getElem?_drop] at hc;simp only[List.getElem?_map,List.getElem?_range hj,Option.map_some,Option.some.injEq] at hv;obtain⟨v',hv',hr⟩:=h5 i (off+j) c (by simp[getc,he,hc]);rw[show p.off+i*p.sz+off+j=p.off+i*p.sz+(off+j) by omega,hv'] at hv;simp at hv;subst hv;exact hr
  ·cases hc
 ·by_cases hj:j<sz
  ·simp only[List.getElem?_map,List.getElem?_range hj,Option.map_some,Option.some.injEq] at hu;have hlt:off+j<e.length:=by omega
   obtain⟨v',hv',hr⟩:=h5 i (off+j) e[off+j] (by simp[getc,he,hlt]);rw[show p.off+i*p.sz+off+j=p.off+i*p.sz+(off+j) by omega,hv'] at hu;rw[cell?_cells h1,show p.off+i*p.sz+off+j=p.off+i*p.sz+(off+j) by omega,hv'];simpa using hu
  ·have:sz≤j:=by omega
   simp[this] at hu
theorem rdCells_ok {hc:Heap} {sz:Nat} {a:AV} {x:Value} {cs:List AV} (h:rdCells hc sz a=some cs) (hv:VR w S m a x)
  (hcont:∀b o p,(match a with| .ptr c _ _=>b=c|_=>False)→hc b=some o→m b=some p→CR w S m p o):
  ∃b o vs,x=.pointer (some ⟨b,o,none⟩)∧LR w S m cs vs∧At w b o vs∧vs.length=sz:=by
 cases hv<;>simp only[rdCells,reduceCtorEq] at h
 case ptr b i off p hm=>
  split at h
  ·rename_i es hb
   split at h
   ·rename_i e he
    split at h
    ·rename_i hl
     simp at h;subst h;obtain⟨vs,h1,h2⟩:=(hcont b _ p rfl hb hm).seg he off sz hl;exact⟨_,_,vs,rfl,h1,h2,by rw[h1.1];simp;omega⟩
    ·cases h
   ·cases h
  ·cases h
 case rp cells off blk o us hS hc' hr=>
  split at h
  ·rename_i hl
   simp at h;subst h;refine⟨blk,o+off,(List.range sz).map fun j=>us (off+j),rfl,⟨by simp;omega,fun j c v hc hv=>?_⟩,fun j u hu=>?_,by simp⟩
   ·rw[List.getElem?_take] at hc;split at hc
    ·rename_i hj
     rw[List.getElem?_drop] at hc;simp only[List.getElem?_map,List.getElem?_range hj,Option.map_some,Option.some.injEq] at hv;subst hv;exact(hr _ _ hc).up
    ·cases hc
   ·by_cases hj:j<sz
    ·simp only[List.getElem?_map,List.getElem?_range hj,Option.map_some,Option.some.injEq] at hu;subst hu;have hlt:off+j<cells.length:=by omega
     have:=hc' (off+j) cells[off+j] (by simp[hlt]);rw[show o+off+j=o+(off+j) by omega];exact this
    ·have:sz≤j:=by omega
     simp[this] at hu
  ·cases h
theorem TyOK.run_size {t:TypeId} {ti:TI} (h:TyOK P t ti) (w:World):(sizeOf t).run P w=.ok ti.size w:=by
 obtain⟨i,z,h1,h2,_⟩:=h.info;simp[sizeOf,typeInfo,h1,h2]
theorem run_isAgg {t:TypeId} {d:TypeDesc} (h:P.underlying t=some d) (w:World):(isAgg t).run P w=.ok d.isRow w:=by
 unfold isAgg;rw[Sem.run_bind,run_underlying h w];cases d<;>rfl
theorem loadVar_ok {t:TypeId} {ti:TI} (hT:TyOK P t ti) {b o:Nat} {vs:List Value} {cs:List AV} {v:AV} (hl:LR w S m cs vs) (ha:At w b o vs)
  (hz:vs.length=ti.size) (hv:ofCells ti.agg cs=some v):∃v',(loadVar t ⟨b,o,none⟩).run P w=.ok v' w∧VR w S m v v':=by
 obtain⟨i,z,hi,hiz,_⟩:=hT.info;obtain⟨d,hu,hd,_⟩:=hT.und;obtain⟨h1,h2⟩:=VR.ofCells hl hv
 cases hg:ti.agg with
 |true=>
  refine⟨.agg ⟨vs⟩, ?_,h1 hg⟩;exact run_loadVar_mid w b o t vs d ha hu (hd.trans hg) (by simp[hi,hiz,hz])
 |false=>
  obtain⟨v',rfl,hr⟩:=h2 hg;refine⟨v', ?_,hr⟩;have hc:=ha 0 v' rfl;simp at hc;simp[loadVar,Sem.run_bind,run_isAgg hu,hd,hg,hc]
theorem rdCls_L {n0 b:Nat} {a:AV} (h:rdCls n0 a=.L) (hb:below n0 a=decide (b<n0)):b<n0:=by
 unfold rdCls at h;rw[hb] at h;by_cases hh:b<n0
 ·exact hh
 ·simp[hh] at h
theorem load_ok {t:TypeId} {ti:TI} (hT:TyOK P t ti) {hc:Heap} {n0:Nat} {a v:AV} {c:Cls} {u:Upd} {x:Value}
  (h:aLoad ti hc n0 a=some (c,v,u)) (hv:VR w S m a x)
  (hcont:∀b o p,(c=.L→b<n0)→hc b=some o→m b=some p→CR w S m p o):
  u=[]∧∃v',(Instr.loadAt t x).run P w=.ok v' w∧VR w S m v v':=by
 unfold aLoad at h;split at h
 ·rename_i cs hcs
  split at h
  ·rename_i v1 hv1
   simp only[Option.some.injEq,Prod.mk.injEq] at h;obtain⟨h1,h2,h3⟩:=h;subst h2;refine⟨h3.symm, ?_⟩
   obtain⟨b,o,vs,hx,hl,hat,hz⟩:=rdCells_ok hcs hv (fun b o p hb=>hcont b o p (fun hL=>by
    cases a<;>simp only at hb
    case ptr b1 i off=>subst hb;rw[←h1] at hL;exact rdCls_L hL rfl))
   obtain⟨v',hr,hr'⟩:=loadVar_ok hT hl hat hz hv1;exact⟨v',by rw[hx];simp only[Instr.loadAt,Instr.sureAddr,Sem.run_bind,Sem.run_pure,Result.andThen_ok,hr],hr'⟩
  ·cases h
 ·cases h
end
end Go.Av
namespace Go.Av
structure ER (w:World) (S:Nat→Prop) (m:Pm) (sz:Nat) (es:List (List AV)) (vs:List Value):Prop where
 len:vs.length=es.length*sz
 each:∀(i:Nat) (e:List AV),es[i]?=some e→e.length=sz∧e.all scal=true∧LR w S m e ((vs.drop (i*sz)).take sz)
section
variable {P:Program} {w:World} {S F:Nat→Prop} {m:Pm} {g:Heap} {sz:Nat}
theorem ER.nil:ER w S m sz [] []:=⟨by simp,fun i e h=>by simp at h⟩
theorem ER.one {e:List AV} {u:List Value} (h:LR w S m e u) (hz:e.length=sz) (hsc:e.all scal=true):ER w S m sz [e] u:=
 ⟨by simp[h.1,hz],fun i e' he=>by
  cases i with
  |zero=>simp at he;subst he;exact⟨hz,hsc,by simpa[List.take_of_length_le (by rw[h.1,hz];exact Nat.le_refl _:u.length≤sz)] using h⟩
  |succ i=>simp at he⟩
theorem mul_lt_seg {i n sz:Nat} (h:i<n):i*sz+sz≤n*sz:=by
 have:=Nat.mul_le_mul_right sz (Nat.succ_le_of_lt h);rwa[Nat.succ_mul] at this
theorem ER.append {a b:List (List AV)} {x y:List Value} (h:ER w S m sz a x) (k:ER w S m sz b y):ER w S m sz (a++b) (x++y):=by
 refine⟨by simp[h.len,k.len,Nat.add_mul],fun i e he=>?_⟩;by_cases hi:i<a.length
 ·rw[List.getElem?_append_left hi] at he;obtain⟨h1,h1',h2⟩:=h.each i e he;refine⟨h1,h1', ?_⟩;have:=mul_lt_seg (sz:=sz) hi;rw[List.drop_append_of_le_length (by rw[h.len];omega),List.take_append_of_le_length (by simp[h.len];omega)];exact h2
 ·rw[List.getElem?_append_right (by omega)] at he;obtain⟨h1,h1',h2⟩:=k.each _ e he;refine⟨h1,h1', ?_⟩
  have e1:i*sz=x.length+(i - a.length)*sz:=by
   rw[h.len,←Nat.add_mul];congr 1;omega
  rw[e1,List.drop_append,List.drop_of_length_le (by omega:x.length≤x.length+(i - a.length)*sz),Nat.add_sub_cancel_left];simpa using h2
theorem ER.take {a:List (List AV)} {x:List Value} (h:ER w S m sz a x) (n:Nat):ER w S m sz (a.take n) (x.take (n*sz)):=by
 by_cases hn:n≤a.length
 ·refine⟨by simp[h.len,Nat.min_eq_left hn,Nat.min_eq_left (Nat.mul_le_mul_right sz hn)],fun i e he=>?_⟩;rw[List.getElem?_take] at he;split at he
  ·rename_i hi
   obtain⟨h1,h1',h2⟩:=h.each i e he;refine⟨h1,h1', ?_⟩;have:=mul_lt_seg (sz:=sz) hi;rw[List.drop_take,List.take_take,Nat.min_eq_left (by omega)];exact h2
  ·cases he
 ·have hn':a.length≤n:=by omega
  rw[List.take_of_length_le hn',List.take_of_length_le (by rw[h.len];exact Nat.mul_le_mul_right sz hn')];exact h
theorem ER.drop {a:List (List AV)} {x:List Value} (h:ER w S m sz a x) (n:Nat):ER w S m sz (a.drop n) (x.drop (n*sz)):=by
 refine⟨by simp[h.len,Nat.sub_mul],fun i e he=>?_⟩;rw[List.getElem?_drop] at he;obtain⟨h1,h1',h2⟩:=h.each _ e he;refine⟨h1,h1', ?_⟩;rw[List.drop_drop,←Nat.add_mul];exact h2
theorem ER.set {a:List (List AV)} {x:List Value} (h:ER w S m sz a x) {i:Nat} (hi:i<a.length) {e:List AV} {u:List Value} (he:LR w S m e u) (hz:e.length=sz) (hsc:e.all scal=true):
  ER w S m sz (a.set i e) (x.take (i*sz)++u++x.drop (i*sz+sz)):=by
 have h1:a.set i e=a.take i++([e]++a.drop (i+1)):=by
  rw[List.set_eq_take_append_cons_drop,if_pos hi];simp
 have h2:i*sz+sz=(i+1)*sz:=by rw[Nat.succ_mul]
 rw[h1,h2,List.append_assoc];exact(h.take i).append ((ER.one he hz hsc).append (h.drop (i+1)))
theorem ER.mono {w':World} {S':Nat→Prop} {m':Pm} {a:List (List AV)} {x:List Value} (h:ER w S m sz a x)
  (he:Ext S w w') (hs:∀i,S i→S' i) (hm:∀b p,m b=some p→m' b=some p):ER w' S' m' sz a x:=
 ⟨h.len,fun i e hi=>⟨(h.each i e hi).1,(h.each i e hi).2.1,(h.each i e hi).2.2.mono he hs hm⟩⟩
theorem CR.er {p:Pl} {es:List (List AV)} (h:CR w S m p (.cells es)):
  ∃arr e,w.heap[p.blk]?=some (.cells arr e (0,0))∧es.length=p.ext∧p.ext≤p.room∧p.off+p.room*p.sz≤arr.size∧
   ER w S m p.sz es ((arr.toList.drop p.off).take (p.ext*p.sz)):=by
 obtain⟨arr,ty,h1,h2,h2',h3,h4,h5,_⟩:=h;refine⟨arr,ty,h1,h2,h2',h3, ?_,fun i e he=>⟨(h4 i e he).1,(h4 i e he).2, ?_⟩⟩
 ·have:=Nat.mul_le_mul_right p.sz h2';simp[h2];omega
 ·have hi:i<p.ext:=by rw[←h2];exact(List.getElem?_eq_some_iff.1 he).1
  have hseg:=mul_lt_seg (sz:=p.sz) hi;have hroom:=Nat.mul_le_mul_right p.sz h2';have hz:=(h4 i e he).1;rw[List.drop_take,List.take_take,Nat.min_eq_left (by omega),List.drop_drop];refine⟨by simp[hz];omega,fun j c v hc hv=>?_⟩;rw[List.getElem?_take] at hv;have hj:j<p.sz:=by rw[←hz];exact(List.getElem?_eq_some_iff.1 hc).1
  rw[if_pos hj,List.getElem?_drop,getElem?_toList] at hv;obtain⟨v',hv',hr⟩:=h5 i j c (by simp[getc,he,hc]);rw[show p.off+i*p.sz+j=p.off+i*p.sz+j from rfl,hv'] at hv;cases hv;exact hr
theorem CR.erT {p:Pl} {es:List (List AV)} (h:CR w S m p (.cells es)):
  ∃arr e,w.heap[p.blk]?=some (.cells arr e (0,0))∧es.length=p.ext∧p.ext≤p.room∧p.off+p.room*p.sz≤arr.size∧
   ER w S m p.sz es ((arr.toList.drop p.off).take (p.ext*p.sz))∧TyC p arr e:=by
 obtain⟨arr,e,h1,h2,h3,h4,h5⟩:=h.er;obtain⟨arr',e',k1,_,_,_,_,_,k6⟩:=h;rw[h1] at k1;cases k1;exact⟨arr,e,h1,h2,h3,h4,h5,k6⟩
theorem TyC.size {p:Pl} {arr arr':Array Value} {e:TypeId} (h:TyC p arr e) (hs:arr'.size=arr.size):TyC p arr' e:=
 fun t o ht=>let ⟨a,b,c⟩:=h t o ht;⟨a,b,fun ho=>hs.trans (c ho)⟩
theorem CR.mk {p:Pl} {es:List (List AV)} {arr:Array Value} {e:TypeId} (h1:w.heap[p.blk]?=some (.cells arr e (0,0))) (h2:es.length=p.ext)
  (h2':p.ext≤p.room) (h3:p.off+p.room*p.sz≤arr.size) (h4:ER w S m p.sz es ((arr.toList.drop p.off).take (p.ext*p.sz))) (hty:TyC p arr e):CR w S m p (.cells es):=by
 refine⟨arr,e,h1,h2,h2',h3,fun i l hi=>⟨(h4.each i l hi).1,(h4.each i l hi).2.1⟩,fun i j c hc=>?_,hty⟩;unfold getc at hc
 cases he:es[i]? with
 |none=>simp[he] at hc
 |some l=>
  simp[he] at hc;obtain⟨hz,_,hl⟩:=h4.each i l he;obtain⟨v,hv,hr⟩:=hl.get hc;refine⟨v, ?_,hr⟩;have hi:i<p.ext:=by rw[←h2];exact(List.getElem?_eq_some_iff.1 he).1
  have hseg:=mul_lt_seg (sz:=p.sz) hi;rw[List.getElem?_take] at hv;split at hv
  ·rename_i hj
   rw[List.getElem?_drop,List.getElem?_take,if_pos (by omega),List.getElem?_drop,getElem?_toList] at hv;rw[show p.off+i*p.sz+j=p.off+(i*p.sz+j) by omega];exact hv
  ·cases hv
theorem setCells_heap (b:Nat):∀(vs:List Value) (o:Nat) (w:World) (arr:Array Value) (e:TypeId) (fz:Nat×Nat),w.heap[b]?=some (.cells arr e fz)→o+vs.length≤arr.size→
  ∃arr',(w.setCells b o vs).heap[b]?=some (.cells arr' e fz)∧arr'.toList=arr.toList.take o++vs++arr.toList.drop (o+vs.length)
 |[],o,w,arr,e,fz,h,_=>⟨arr,h,by simp⟩
 |v::r,o,w,arr,e,fz,h,hl=>by
  have h1:(w.setCell ⟨b,o,none⟩ v).heap[b]?=some (.cells (arr.setIfInBounds o v) e fz):=by
   simp only[World.setCell,Array.getElem?_modify,if_true,h,Option.map_some,Option.isSome_none,Bool.false_eq_true,if_false]
  simp only[List.length_cons] at hl;obtain⟨arr',h2,h3⟩:=setCells_heap b r (o+1) (w.setCell ⟨b,o,none⟩ v) (arr.setIfInBounds o v) e fz h1 (by simp;omega);refine⟨arr',h2, ?_⟩;rw[h3,Array.toList_setIfInBounds];have ho:o<arr.toList.length:=by simp;omega
  rw[List.set_eq_take_append_cons_drop,if_pos ho];have hlt:(arr.toList.take o).length=o:=by simp;omega
  rw[List.take_append,List.drop_append,hlt]
  simp[List.take_of_length_le (by rw[hlt];omega:(arr.toList.take o).length≤o+1),List.drop_of_length_le (by rw[hlt];omega:(arr.toList.take o).length≤o+1+r.length),hlt,
   show o+1 - o=1 by omega,show o+1+r.length - o=r.length+1 by omega,show o+1+r.length=o+(r.length+1) by omega]
theorem setCells_ext (b:Nat):∀(vs:List Value) (o:Nat) (w:World),Ext (fun k=>k≠b) w (w.setCells b o vs)
 |[],_,w=>Ext.refl _ _
 |v::r,o,w=>by
  have h1:Ext (fun k=>k≠b) w (w.setCell ⟨b,o,none⟩ v):=
   ⟨rfl,rfl,rfl,by simp[World.setCell],fun k hk=>by simp only[World.setCell,Array.getElem?_modify];rw[if_neg (by omega)]⟩
  exact h1.trans (setCells_ext b r (o+1) _) (fun _ h=>h)
theorem ext_alloc (w:World) (o:Obj):Ext (fun k=>k<w.heap.size) w (w.alloc o):=
 ⟨rfl,rfl,rfl,by show _≤(w.heap.push o).size;simp,fun k hk=>by show(w.heap.push o)[k]?=_;rw[Array.getElem?_push,if_neg (by omega)]⟩
theorem alloc_new (w:World) (o:Obj):(w.alloc o).heap[w.heap.size]?=some o:=by show(w.heap.push o)[w.heap.size]?=_;simp
theorem Rel.born (h:Rel w S F m g) {s:Nat} (hs:m s=none) {es:List (List AV)} {arr:Array Value} {e:TypeId} {room:Nat}
  (hr:es.length≤room) (ha:arr.size=room*sz) (hE:ER w S m sz es (arr.toList.take (es.length*sz))):
  Rel (w.alloc (.cells arr e)) S F (setm m s ⟨w.heap.size,0,sz,es.length,room,some (e,decide (room=1))⟩) (upd g s (some (.cells es))):=by
 refine h.birth hs (ext_alloc w _) (Nat.le_refl _) (by show _<(w.heap.push _).size;simp) ?_
 refine CR.mk (arr:=arr) (e:=e) (alloc_new w _) rfl hr (by simp[ha]) ?_ (fun t o ht=>by
  simp only[Option.some.injEq,Prod.mk.injEq] at ht;obtain⟨rfl,rfl⟩:=ht
  exact⟨rfl,rfl,fun ho=>by have h1:=of_decide_eq_true ho;rw[ha,h1,Nat.one_mul]⟩)
 simpa using hE.mono ((ext_alloc w _).mono h.inS) (fun _ h=>h) (setm_le hs)
end
end Go.Av
namespace Go.Av
section
variable {P:Program} {w:World} {S F:Nat→Prop} {m:Pm} {g:Heap}
theorem over_length {e:List AV} {off:Nat} {cs:List AV} (h:off+cs.length≤e.length):(over e off cs).length=e.length:=by
 simp[over];omega
theorem over_scal {e:List AV} {off:Nat} {cs:List AV} (h:e.all scal=true) (k:cs.all scal=true):(over e off cs).all scal=true:=by
 simp only[over,List.all_append,Bool.and_eq_true,k,and_true];rw[List.all_eq_true] at h;exact⟨List.all_eq_true.2 fun x hx=>h x (List.mem_of_mem_take hx),List.all_eq_true.2 fun x hx=>h x (List.mem_of_mem_drop hx)⟩
theorem LR.over {e:List AV} {u:List Value} (h:LR w S m e u) {off:Nat} {cs:List AV} {us:List Value} (k:LR w S m cs us):
  LR w S m (over e off cs) (u.take off++us++u.drop (off+us.length)):=by
 unfold Av.over;rw[k.1];exact((h.take off).append k).append (h.drop (off+cs.length))
theorem LR.one {cs:List AV} {us:List Value} (h:LR w S m cs us) (hs:cs.all scal=true):∀v∈us,v.oneCell'=true:=by
 intro v hv;obtain⟨i,hi,he⟩:=List.mem_iff_getElem.1 hv;have hi':i<cs.length:=by rw[←h.1];exact hi
 refine(h.2 i cs[i] v (by simp[hi']) (by simp[hi,he])).scal1 ?_;exact List.all_eq_true.1 hs _ (List.getElem_mem _)
theorem write_seg (h:Rel w S F m g) {b:Nat} {p:Pl} {es:List (List AV)} (hg:g b=some (.cells es)) (hm:m b=some p) {i:Nat} {e:List AV} (he:es[i]?=some e)
  {off:Nat} {cs:List AV} {us:List Value} (hl:off+cs.length≤e.length) (hc:LR w S m cs us) (hsc:cs.all scal=true):
  Rel (w.setCells p.blk (p.off+i*p.sz+off) us) S F m (upd g b (some (.cells (es.set i (over e off cs)))))∧
  (∀j,j<us.length→(w.cell? ⟨p.blk,p.off+i*p.sz+off+j,none⟩).isSome=true∧w.frozen? ⟨p.blk,p.off+i*p.sz+off+j,none⟩=false):=by
 obtain⟨arr,ty,h1,h2,h3,h4,h5,h6⟩:=(h.content b _ p hg hm).erT;have hi:i<es.length:=(List.getElem?_eq_some_iff.1 he).1;obtain⟨hz,hz',hL⟩:=h5.each i e he;have hseg:=mul_lt_seg (sz:=p.sz) (h2▸hi:i<p.ext);have hroom:=Nat.mul_le_mul_right p.sz h3;have hul:=hc.1;have hsz:p.off+i*p.sz+off+us.length≤arr.size:=by omega
 constructor
 ·obtain⟨arr',k1,k2⟩:=setCells_heap p.blk us (p.off+i*p.sz+off) w arr ty (0,0) h1 hsz;have hext:=setCells_ext p.blk us (p.off+i*p.sz+off) w;have hap:=h.apart b _ p hg hm
  have hsize:arr'.size=arr.size:=by
   have:=congrArg List.length k2;simp at this;omega
  refine h.write hg hm hext (CR.mk k1 (by simpa using h2) h3 ?_ ?_ (h6.size hsize))
  ·omega
  ·have hE:=(h5.mono (hext.mono fun k hk e=>hap.1 (e▸hk)) (fun _ h=>h) (fun _ _ h=>h)).set hi
    ((hL.over (off:=off) hc).mono (hext.mono fun k hk e=>hap.1 (e▸hk)) (fun _ h=>h) (fun _ _ h=>h)) (by rw[over_length hl,hz]) (over_scal hz' hsc)
   have key:(arr'.toList.drop p.off).take (p.ext*p.sz)=
     ((arr.toList.drop p.off).take (p.ext*p.sz)).take (i*p.sz)++(((((arr.toList.drop p.off).take (p.ext*p.sz)).drop (i*p.sz)).take p.sz).take off++us++
       ((((arr.toList.drop p.off).take (p.ext*p.sz)).drop (i*p.sz)).take p.sz).drop (off+us.length))++((arr.toList.drop p.off).take (p.ext*p.sz)).drop (i*p.sz+p.sz):=by
    rw[k2];exact seg_key arr.toList us p.off (p.ext*p.sz) (i*p.sz) p.sz off hseg (by rw[hul,←hz];exact hl) (by simp;omega)
   rw[key];exact hE
 ·intro j hj;refine⟨?_,by simp[World.frozen?,h1]⟩;rw[cell?_cells h1];have:p.off+i*p.sz+off+j<arr.size:=by omega
  simp[this]
theorem run_storeVar_any {t:TypeId} {ti:TI} (hT:TyOK P t ti) {b o:Nat} {v:Value} (hz:v.cells.size=ti.size)
  (hc:∀j,j<v.cells.toList.length→(w.cell? ⟨b,o+j,none⟩).isSome=true∧w.frozen? ⟨b,o+j,none⟩=false) (h1:∀u∈v.cells.toList,u.oneCell'=true):
  (storeVar t ⟨b,o,none⟩ v).run P w=.ok () (w.setCells b o v.cells.toList):=by
 have:=run_storeCells_cells (P:=P) b o v.cells.toList 0 w (fun j hj=>by simpa using(hc j hj).1) (fun j hj=>by simpa using(hc j hj).2) h1;simp only[Nat.add_zero] at this;simp[storeVar,hT.run_size,hz,this]
theorem store_ok {t:TypeId} {ti:TI} (hT:TyOK P t ti) {hc:Heap} {a x v:AV} {c:Cls} {u:Upd} {xa xv:Value}
  (h:aStore ti hc a x=some (c,v,u)) (ha:VR w S m a xa) (hx:VR w S m x xv) (hg:∀b o p,m b=some p→hc b=some o→g b=some o) (hr:Rel w S F m g):
  v=.tup []∧∃w',(Instr.storeAt t xa xv).run P w=.ok () w'∧Ext (fun k=>S k∨F k) w w'∧Rel w' S F m (upds g u):=by
 unfold aStore at h;split at h
 ·rename_i b i off cs hcs
  split at h
  ·rename_i es hb
   split at h
   ·rename_i e he
    split at h
    ·rename_i hcond
     obtain⟨h1,h2,h3⟩:=hcond;simp only[Option.some.injEq,Prod.mk.injEq] at h;obtain⟨_,hv,hu⟩:=h;subst hu;refine⟨hv.symm, ?_⟩;cases ha
     case ptr p hm=>
     have hL:=hx.cells hcs;have hgb:=hg b _ p hm hb;obtain⟨k1,k2⟩:=write_seg hr hgb hm he h1 hL h3;refine⟨_, ?_, ?_,k1⟩
     ·simp only[Instr.storeAt,Instr.sureAddr,Sem.run_bind,Sem.run_pure,Result.andThen_ok];exact run_storeVar_any hT (by have:=hL.1;simp at this;omega) k2 (hL.one h3)
     ·have hap:=hr.apart b _ p hgb hm;refine(setCells_ext _ _ _ _).mono fun k hk e=>?_
      subst e;exact hk.elim hap.1 hap.2
    ·cases h
   ·cases h
  ·cases h
 ·cases h
theorem Ext.old {w':World} (he:Ext (fun k=>k<w.heap.size) w w') (hr:Rel w S F m g):Ext (fun k=>S k∨F k) w w':=
 he.mono fun k hk=>hk.elim (hr.inS k) (hr.inF k)
theorem new_one (hr:Rel w S F m g) {s:Nat} (hs:m s=none) {cs:List AV} {v:Value} (hL:LR w S m cs v.cells.toList) (hsc:cs.all scal=true) (e:TypeId):
  ∃p,Rel (w.alloc (.cells v.cells e)) S F (setm m s p) (upd g s (some (.cells [cs])))∧p.blk=w.heap.size∧p.off=0∧p.ty=some (e,true):=by
 refine⟨_,hr.born hs (es:=[cs]) (arr:=v.cells) (e:=e) (sz:=cs.length) (room:=1) (by simp) (by have:=hL.1;simp at this;simp;omega) ?_,rfl,rfl,rfl⟩;have:v.cells.toList.take ([cs].length*cs.length)=v.cells.toList:=List.take_of_length_le (by rw[hL.1];simp);rw[this];exact ER.one hL rfl hsc
theorem alloc_ok {t:TypeId} {ti:TI} (hT:TyOK P t ti) {s:Nat} {v:AV} {c:Cls} {u:Upd} (h:aAlloc ti s=some (c,v,u)) (hs:m s=none) (hr:Rel w S F m g):
  ∃v' w' p,(Instr.alloc t true (.tuple #[])).run P w=.ok v' w'∧Ext (fun k=>S k∨F k) w w'∧VR w' S (setm m s p) v v'∧Rel w' S F (setm m s p) (upds g u):=by
 unfold aAlloc at h;split at h
 ·rename_i hsc
  simp only[Option.some.injEq,Prod.mk.injEq] at h;obtain⟨_,hv,hu⟩:=h;subst hv hu;obtain⟨i,z,hi,_,hz,hzc⟩:=hT.info;obtain⟨p,k1,k2,k3,_⟩:=new_one hr hs (v:=z) (hzc w S m) hsc t;refine⟨.pointer (some ⟨w.heap.size,0,none⟩),_,p, ?_,(ext_alloc w _).old hr, ?_,k1⟩
  ·simp[Instr.alloc,zeroValue,typeInfo,hi,hz,newVar,newRow]
  ·have:=VR.ptr (w:=w.alloc (.cells z.cells t)) (S:=S) (m:=setm m s p) s 0 0 p setm_same;simpa[k2,k3] using this
 ·cases h
theorem box_ok {t:TypeId} {s:Nat} {x v:AV} {c:Cls} {u:Upd} {xv:Value} (h:aBox s x=some (c,v,u)) (hx:VR w S m x xv) (hs:m s=none) (hr:Rel w S F m g):
  ∃v' w' p,(Instr.box t xv).run P w=.ok v' w'∧Ext (fun k=>S k∨F k) w w'∧VR w' S (setm m s p) v v'∧Rel w' S F (setm m s p) (upds g u):=by
 unfold aBox at h;split at h
 ·rename_i cs hcs
  split at h
  ·rename_i hsc
   simp only[Option.some.injEq,Prod.mk.injEq] at h;obtain⟨_,hv,hu⟩:=h;subst hv hu;obtain⟨p,k1,k2,k3,_⟩:=new_one hr hs (v:=xv) (hx.cells hcs) hsc t;refine⟨.pointer (some ⟨w.heap.size,0,none⟩),_,p, ?_,(ext_alloc w _).old hr, ?_,k1⟩
   ·simp[Instr.box,newVar,newRow]
   ·have:=VR.ptr (w:=w.alloc (.cells xv.cells t)) (S:=S) (m:=setm m s p) s 0 0 p setm_same;simpa[k2,k3] using this
  ·cases h
 ·cases h
end
end Go.Av
namespace Go.Av
section
variable {P:Program} {w:World} {S F:Nat→Prop} {m:Pm} {g:Heap} {sz:Nat}
def PR (w:World) (S:Nat→Prop) (m:Pm):List (Nat×AV)→List (Nat×Value)→Prop
 |[],[]=>True
 |(i,a)::l,(j,v)::k=>i=j∧VR w S m a v∧PR w S m l k
 |_,_=>False
theorem splice (off:Nat):∀(vs:List Value) (k:Nat) (cells:Array Value),off+k+vs.length≤cells.size→
  ((vs.zipIdx k).foldl (fun(cs:Array Value) (x:Value×Nat)=>cs.setIfInBounds (off+x.2) x.1) cells).toList=
    cells.toList.take (off+k)++vs++cells.toList.drop (off+k+vs.length)
 |[],k,cells,_=>by simp
 |v::r,k,cells,hl=>by
  simp only[List.length_cons] at hl;rw[List.zipIdx_cons,List.foldl_cons,splice off r (k+1) (cells.setIfInBounds (off+k) v) (by simp;omega),Array.toList_setIfInBounds];have ho:off+k<cells.toList.length:=by simp;omega
  rw[List.set_eq_take_append_cons_drop,if_pos ho];have hlt:(cells.toList.take (off+k)).length=off+k:=by simp;omega
  rw[List.take_append,List.drop_append,hlt]
  simp[List.take_of_length_le (by rw[hlt];omega:(cells.toList.take (off+k)).length≤off+(k+1)),List.drop_of_length_le (by rw[hlt];omega:(cells.toList.take (off+k)).length≤off+(k+1)+r.length),
   show off+(k+1) - (off+k)=1 by omega,show off+(k+1)+r.length - (off+k)=r.length+1 by omega,show off+k+(r.length+1)=off+(k+1)+r.length by omega]
  rw[show off+k+1+(r.length)=off+(k+1)+r.length by omega]
theorem splice_arr (off:Nat) (v:Value) (cells:Array Value) (h:off+v.cells.size≤cells.size):
  (v.cells.zipIdx.foldl (fun(cs:Array Value) (x:Value×Nat)=>cs.setIfInBounds (off+x.2) x.1) cells).toList=
    cells.toList.take off++v.cells.toList++cells.toList.drop (off+v.cells.toList.length):=by
 rw[←Array.foldl_toList,Array.toList_zipIdx];have:=splice off v.cells.toList 0 cells (by simpa using h);simpa using this
theorem fill_ok {place place':Nat→Option (Nat×Nat)} (hp:∀i o s,place i=some (o,s)→place' i=some (o,s)):
  ∀(ps:List (Nat×AV)) (pvs:List (Nat×Value)) (cs cs':List AV) (vs:List Value),PR w S m ps pvs→LR w S m cs vs→fill place cs ps=some cs'→
   ∃vs',Instr.fill place' ⟨vs⟩ pvs=some ⟨vs'⟩∧LR w S m cs' vs'
 |[],[],cs,cs',vs,_,hl,h=>by simp[fill] at h;subst h;exact⟨vs,rfl,hl⟩
 |[],_::_,_,_,_,hp,_,_=>hp.elim
 |_::_,[],_,_,_,hp,_,_=>hp.elim
 |(i,a)::ps,(j,v)::pvs,cs,cs',vs,hpr,hl,h=>by
  obtain⟨rfl,hv,hpr'⟩:=hpr;simp only[fill] at h;split at h
  ·rename_i off size l h1 h2
   split at h
   ·rename_i hc
    have hL:=hv.cells h2;have e1:=hL.1;simp only[Array.length_toList] at e1;have e2:=hl.1;have hsz:off+v.cells.size≤(⟨vs⟩:Array Value).size:=by simp;omega
    have hsp:=splice_arr off v ⟨vs⟩ hsz;obtain⟨vs',k1,k2⟩:=fill_ok hp ps pvs _ cs' ((vs.take off)++v.cells.toList++vs.drop (off+v.cells.toList.length)) hpr' (hl.over hL) h;refine⟨vs', ?_,k2⟩
    have hne:(v.cells.size≠size||off+v.cells.size>(⟨vs⟩:Array Value).size)=false:=by
     simp only[Bool.or_eq_false_iff,decide_eq_false_iff_not,gt_iff_lt,Nat.not_lt,ne_eq,Decidable.not_not];exact⟨by omega,by first|omega|(simp;omega)⟩
    simp only[Instr.fill,hp i off size h1];rw[if_neg (by rw[hne];simp)]
    have:(v.cells.zipIdx.foldl (fun(cs:Array Value) (x:Value×Nat)=>cs.setIfInBounds (off+x.2) x.1) ⟨vs⟩)=
      ⟨(vs.take off)++v.cells.toList++vs.drop (off+v.cells.toList.length)⟩:=Array.ext' hsp
    rw[this];exact k1
   ·cases h
  ·cases h
theorem fillS_ok:∀(ps:List (Nat×AV)) (pvs:List (Nat×Value)) (es es':List (List AV)) (vs:List Value),PR w S m ps pvs→ER w S m sz es vs→fillS sz es ps=some es'→
   ∃vs',Instr.fill (fun i=>some (i*sz,sz)) ⟨vs⟩ pvs=some ⟨vs'⟩∧ER w S m sz es' vs'∧es'.length=es.length
 |[],[],es,es',vs,_,hl,h=>by simp[fillS] at h;subst h;exact⟨vs,rfl,hl,rfl⟩
 |[],_::_,_,_,_,hp,_,_=>hp.elim
 |_::_,[],_,_,_,hp,_,_=>hp.elim
 |(i,a)::ps,(j,v)::pvs,es,es',vs,hpr,hl,h=>by
  obtain⟨rfl,hv,hpr'⟩:=hpr;simp only[fillS] at h;split at h
  ·rename_i l h2
   split at h
   ·rename_i hc
    obtain⟨hc1,hc2,hc3⟩:=hc;have hL:=hv.cells h2;have e1:=hL.1;simp only[Array.length_toList] at e1;have e2:=hl.len;have hseg:=mul_lt_seg (sz:=sz) hc2;have hsz:i*sz+v.cells.size≤(⟨vs⟩:Array Value).size:=by simp;omega
    have hsp:=splice_arr (i*sz) v ⟨vs⟩ hsz;have hE:=hl.set hc2 hL hc1 hc3;have hlen:v.cells.toList.length=sz:=by simp;omega
    obtain⟨vs',k1,k2,k3⟩:=fillS_ok ps pvs _ es' _ hpr' hE h;refine⟨vs', ?_,k2,by simpa using k3⟩
    have hne:(v.cells.size≠sz||i*sz+v.cells.size>(⟨vs⟩:Array Value).size)=false:=by
     simp only[Bool.or_eq_false_iff,decide_eq_false_iff_not,gt_iff_lt,Nat.not_lt,ne_eq,Decidable.not_not];exact⟨by omega,by first|omega|(simp;omega)⟩
    simp only[Instr.fill];rw[if_neg (by rw[hne];simp)]
    have:(v.cells.zipIdx.foldl (fun(cs:Array Value) (x:Value×Nat)=>cs.setIfInBounds (i*sz+x.2) x.1) ⟨vs⟩)=
      ⟨(vs.take (i*sz))++v.cells.toList++vs.drop (i*sz+sz)⟩:=Array.ext' (by rw[hsp,hlen])
    rw[this];exact k1
   ·cases h
  ·cases h
theorem madeCells_get (z:Array Value) (n i j:Nat) (hz:z.size=sz) (hi:i<n) (hj:j<sz):(madeCells z (n*sz))[i*sz+j]?=z[j]?:=by
 have hseg:=mul_lt_seg (sz:=sz) hi;have hlt:i*sz+j<n*sz:=by omega
 have hm:(i*sz+j) % z.size=j:=by rw[hz,Nat.add_comm,Nat.add_mul_mod_self_right,Nat.mod_eq_of_lt hj]
 have hjz:j<z.size:=by omega
 simp only[madeCells,Array.getElem?_map,Array.getElem?_range,if_pos hlt,Option.map_some,hm];simp[hjz]
theorem ER.made {ez:List AV} {z:Value} (hz:ZC ez z) (hl:ez.length=sz) (hsc:ez.all scal=true) (n:Nat):
  ER w S m sz (List.replicate n ez) (madeCells z.cells (n*sz)).toList:=by
 have hL:=hz w S m;have hzl:z.cells.size=sz:=by have:=hL.1;simp at this;omega
 refine⟨by simp[size_madeCells],fun i e he=>?_⟩;rw[List.getElem?_replicate] at he;split at he
 ·rename_i hi
  simp at he;subst he;have hseg:=mul_lt_seg (sz:=sz) hi;refine⟨hl,hsc,by simp[size_madeCells,hl];omega,fun j c v hc hv=>?_⟩;have hj:j<sz:=by rw[←hl];exact(List.getElem?_eq_some_iff.1 hc).1
  rw[List.getElem?_take,if_pos hj,List.getElem?_drop,getElem?_toList,madeCells_get z.cells n i j hzl hi hj] at hv;exact hL.2 j c v hc (by rw[getElem?_toList];exact hv)
 ·cases he
theorem make_ok {t:TypeId} {ti:TI} (hT:TyOK P t ti) {s:Nat} {x y v:AV} {c:Cls} {u:Upd} {xv yv:Value} (h:aMake ti s x y=some (c,v,u))
  (hx:VR w S m x xv) (hy:VR w S m y yv) (hs:m s=none) (hr:Rel w S F m g):
  ∃v' w' p,(Instr.makeSlice t xv yv).run P w=.ok v' w'∧Ext (fun k=>S k∨F k) w w'∧VR w' S (setm m s p) v v'∧Rel w' S F (setm m s p) (upds g u):=by
 unfold aMake at h;split at h
 ·rename_i esz eb ez k1 n k2 n2 hk
  split at h
  ·rename_i hc
   obtain⟨rfl,h0,hb,hb0,hsz0,hzl,hsc⟩:=hc;simp only[Option.some.injEq,Prod.mk.injEq] at h;obtain⟨_,hv,hu⟩:=h;subst hv hu;obtain⟨d,hund,_,hkind⟩:=hT.und;rw[hk] at hkind;obtain⟨e,i,z,hd,hi,hisz,hib,hiz,hzc⟩:=hkind;subst hd;cases hx;cases hy;have hn:((n.toNat:Nat):Int)=n:=Int.toNat_of_nonneg h0
   have hbe:(i.bytes:Int)*n≤281474976710656:=by
    rw[hib,Int.mul_comm];omega
   have hn63:n≤9223372036854775807:=by
    have h1:n≤n*(eb:Int):=by
     have:n*1≤n*(eb:Int):=Int.mul_le_mul_of_nonneg_left (by omega) h0;simpa using this
    omega
   have hrun:=run_make (P:=P) w t e i z hund hi hiz k1 k2 n n h0 (Int.le_refl _) hbe hn63;rw[hisz] at hrun
   have hborn:=hr.born hs (es:=List.replicate n.toNat ez) (arr:=madeCells z.cells (n.toNat*esz)) (e:=e) (sz:=esz) (room:=n.toNat) (by simp) (by simp[size_madeCells])
    (by
      have:=ER.made (w:=w) (S:=S) (m:=m) hzc hzl hsc n.toNat;have h2:=this.len;rw[List.take_of_length_le (by rw[h2];exact Nat.le_refl _)]
      exact this)
   refine⟨_,_,_,hrun,(ext_alloc w _).old hr, ?_,hborn⟩;have:=VR.sl (w:=w.alloc (.cells (madeCells z.cells (n.toNat*esz)) e)) (S:=S) s 0 n.toNat n.toNat ⟨w.heap.size,0,esz,(List.replicate n.toNat ez).length,n.toNat,some (e,decide (n.toNat=1))⟩ (setm_same (m:=m)) (by simp) (by simp) (Nat.le_refl _) (by simp);simpa using this
  ·cases h
 ·cases h
theorem buildSlice_ok {t:TypeId} {ti:TI} (hT:TyOK P t ti) {len s:Nat} {ps:List (Nat×AV)} {pvs:List (Nat×Value)} {v:AV} {c:Cls} {u:Upd} (h:aBuildSlice ti len s ps=some (c,v,u))
  (hp:PR w S m ps pvs) (hs:m s=none) (hr:Rel w S F m g):
  ∃v' w' m',(Instr.buildSlice t len pvs.toArray).run P w=.ok v' w'∧Ext (fun k=>S k∨F k) w w'∧(∀b q,m b=some q→m' b=some q)∧(∀b,b≠s→m' b=m b)∧
   VR w' S m' v v'∧Rel w' S F m' (upds g u):=by
 unfold aBuildSlice at h;split at h
 ·rename_i esz eb ez hk
  obtain⟨d,hund,_,hkind⟩:=hT.und;rw[hk] at hkind;obtain⟨e,i,z,hd,hi,hisz,hib,hiz,hzc⟩:=hkind;subst hd;split at h
  ·rename_i hlen
   subst hlen;split at h
   ·rename_i hemp
    have hps:ps=[]:=by simpa using hemp
    subst hps;simp only[Option.some.injEq,Prod.mk.injEq] at h;obtain⟨_,hv,hu⟩:=h;subst hv hu
    cases pvs with
    |cons _ _=>exact hp.elim
    |nil=>
     refine⟨.slice (some ⟨w.heap.size,0,none⟩) 0 0,w.alloc (.cells #[] e),m, ?_,(ext_alloc w _).old hr,fun _ _ h=>h,fun _ _=>rfl,.emn _, ?_⟩
     ·simp[Instr.buildSlice,run_underlying hund,sizeOf,typeInfo,hi,Instr.fill,newRow,Array.range_zero']
     ·have hE:=ext_alloc w (.cells #[] e)
      exact⟨fun b o p hg hm=>(hr.content b o p hg hm).mono (hE.mono hr.inS) (fun _ h=>h) (fun _ _ h=>h) (hE.same _ (hr.inm b p hm)),hr.disj,hr.apart,
       fun k hk=>Nat.lt_of_lt_of_le (hr.inS k hk) hE.size,fun k hk=>Nat.lt_of_lt_of_le (hr.inF k hk) hE.size,fun b p hm=>Nat.lt_of_lt_of_le (hr.inm b p hm) hE.size,fun k a ha=>(hr.glob k a ha).mono (hE.mono hr.inS) (fun _ h=>h) (fun _ _ h=>h)⟩
   ·cases h
  ·rename_i hlen
   split at h
   ·rename_i hc
    obtain⟨hbig,hzl,hsz0,hsc⟩:=hc;split at h
    ·rename_i es hes
     simp only[Option.some.injEq,Prod.mk.injEq] at h;obtain⟨_,hv,hu⟩:=h;subst hv hu;have hE0:=ER.made (w:=w) (S:=S) (m:=m) hzc hzl hsc len;obtain⟨vs',k1,k2,k3⟩:=fillS_ok ps pvs _ es _ hp hE0 hes;have hlen2:es.length=len:=by simpa using k3
     have hne:¬(len*esz=0):=by
      intro h0;rcases Nat.mul_eq_zero.1 h0 with h|h<;>omega
     have hborn:=hr.born hs (es:=es) (arr:=⟨vs'⟩) (e:=e) (sz:=esz) (room:=len) (by omega) (by have:=k2.len;simp[this,hlen2]) (by
      rw[List.take_of_length_le (by rw[k2.len];exact Nat.le_refl _)];exact k2)
     refine⟨.slice (some ⟨w.heap.size,0,none⟩) len len,_,_, ?_,(ext_alloc w _).old hr,setm_le hs,fun b hb=>setm_ne hb, ?_,hborn⟩
     ·have hbig':¬(16777216<len*esz):=by omega
      have hm:(Array.range (len*esz)).map (z.cells[·% z.cells.size]!)=madeCells z.cells (len*esz):=rfl;have hpow:¬(len*esz>2^24):=by simpa using hbig'
      simp only[Instr.buildSlice,Sem.run_bind,run_underlying hund,Result.andThen_ok,sizeOf,typeInfo,hi,hisz,zeroValue,hiz];simp[hi,hisz,hiz,hne,hpow,hm,k1,newRow,hbig']
     ·have:=VR.sl (w:=w.alloc (.cells ⟨vs'⟩ e)) (S:=S) s 0 len len ⟨w.heap.size,0,esz,es.length,len,some (e,decide (len=1))⟩ (setm_same (m:=m)) (by simp;omega) (by simp) (Nat.le_refl _) (by simp;omega);simpa using this
    ·cases h
   ·cases h
 ·cases h
end
end Go.Av
namespace Go.Av
section
variable {P:Program} {w:World} {S F:Nat→Prop} {m:Pm} {g:Heap} {sz:Nat}
theorem ER.one_cells {es:List (List AV)} {vs:List Value} (h:ER w S m sz es vs) (hsz:0<sz):∀v∈vs,v.oneCell'=true:=by
 intro v hv;obtain⟨k,hk,he⟩:=List.mem_iff_getElem.1 hv;have hk':k<es.length*sz:=by rw[←h.len];exact hk
 have hi:k / sz<es.length:=(Nat.div_lt_iff_lt_mul hsz).2 hk';obtain⟨h1,h2,h3⟩:=h.each (k / sz) es[k / sz] (by simp[hi]);have hj:k % sz<sz:=Nat.mod_lt _ hsz;have hkk:k / sz*sz+k % sz=k:=by rw[Nat.mul_comm];exact Nat.div_add_mod k sz
 have hjl:k % sz<(es[k / sz]).length:=by rw[h1];exact hj
 refine(h3.2 (k % sz) (es[k / sz])[k % sz] v (by simp[hjl]) ?_).scal1 (List.all_eq_true.1 h2 _ (List.getElem_mem _));rw[List.getElem?_take,if_pos hj,List.getElem?_drop,hkk,List.getElem?_eq_getElem hk,he]
theorem elems_ok {hc:Heap} {y:AV} {yv:Value} {new:List (List AV)} {tx e':TypeId} (hk:(∀s,y≠.str s)→P.underlying tx=some (.slice e')) (hks:∀s,y=.str s→P.underlying tx=some .string) (hsz:0<sz) (h:elems hc sz y=some new) (hv:VR w S m y yv)
  (hcont:∀b o p,(match y with| .sl c _ _ _=>b=c|_=>False)→hc b=some o→m b=some p→CR w S m p o):
  ∃news,ER w S m sz new news∧Src P sz tx yv new.length news w:=by
 cases hv<;>simp only[elems,reduceCtorEq] at h
 case nils=>
  have hk:=hk (fun s e=>by cases e);simp at h;subst h;exact⟨[],ER.nil,Src.ofNil w hk 0⟩
 case str s=>
  have hk:=hks s rfl;split at h
  ·rename_i h1
   subst h1;simp only[Option.some.injEq] at h;subst h;refine⟨byteCells s,⟨by rw[byteCells_length];simp,fun i e he=>?_⟩, ?_⟩
   ·simp only[List.getElem?_map,Option.map_eq_some_iff] at he;obtain⟨b,hb,rfl⟩:=he;refine⟨rfl,rfl,⟨?_,fun j c v hc hv=>?_⟩⟩
    ·have:=(List.getElem?_eq_some_iff.1 hb).1;simp only[byteCells,List.length_take,List.length_drop,List.length_map,List.length_cons,List.length_nil,Nat.mul_one];omega
    ·cases j with
     |zero=>
      simp only[List.getElem?_cons_zero,Option.some.injEq] at hc;subst hc;rw[List.getElem?_take,if_pos (by omega),List.getElem?_drop,Nat.mul_one,Nat.add_zero,byteCells,List.getElem?_map,hb] at hv;simp only[Option.map_some,Option.some.injEq] at hv;subst hv;exact .int _ _
     |succ j=>simp at hc
   ·have:=Src.ofString w hk s;rw[show(List.map (fun b=>[AV.int .u8 (b.toNat:Int)]) s.data.toList).length=s.size by simp];exact this
  ·cases h
 case emp a=>
  have hk:=hk (fun s e=>by cases e);simp at h;subst h;refine⟨[],ER.nil, ?_⟩
  cases a with
  |none=>exact Src.ofNil w hk 0
  |some a=>exact Src.ofSlice w hk a 0 0 [] (by simp) (fun j u hj=>by simp at hj) (fun u hu=>by cases hu)
 case emn a=>
  have hk:=hk (fun s e=>by cases e);simp at h;subst h;exact⟨[],ER.nil,Src.ofSlice w hk a 0 0 [] (by simp) (fun j u hj=>by simp at hj) (fun u hu=>by cases hu)⟩
 case sl b off len cap p h1 h2 h3 h4 hm=>
  have hk:=hk (fun s e=>by cases e);split at h
  ·rename_i es hb
   split at h
   ·rename_i hcond
    obtain⟨hc1,hc2⟩:=hcond;simp at h;subst h;obtain⟨arr,ty,k1,k2,k3,k4,k5⟩:=(hcont b _ p rfl hb hm).er;have hE:=(k5.drop off).take len;rw[hc2] at hE k4 k5;have hroom:=Nat.mul_le_mul_right sz k3;have hlen:((es.drop off).take len).length=len:=by simp;omega
    refine⟨_,hE, ?_⟩;rw[hlen,hc2];refine Src.ofSlice w hk _ len cap _ (by rw[hE.len,hlen]) (fun j u hj=>?_) (hE.one_cells hsz);rw[List.getElem?_take] at hj;split at hj
    ·rename_i hjl
     rw[List.getElem?_drop,List.getElem?_take] at hj;split at hj
     ·rw[List.getElem?_drop,getElem?_toList] at hj;rw[Addr.add_n,cell?_cells k1,show p.off+off*sz+j=p.off+(off*sz+j) by omega];exact hj
     ·cases hj
    ·cases hj
   ·cases h
  ·cases h
 case ron a cap=>
  have hk:=hk (fun s e=>by cases e);simp at h;subst h;refine⟨[],ER.nil, ?_⟩
  cases a with
  |none=>exact Src.ofNil w hk cap
  |some a=>exact Src.ofSlice w hk a 0 cap [] (by simp) (fun j u hj=>by simp at hj) (fun u hu=>by cases hu)
 case ro es blk o sz' cap us hS hz hcap hcc hr=>
  have hk:=hk (fun s e=>by cases e);split at h
  ·rename_i hall
   simp at h;subst h
   have key:∀i j c,getc es i j=some c→i<es.length∧j<sz∧sz'=sz:=by
    intro i j c hg;unfold getc at hg
    cases he:es[i]? with
    |none=>simp[he] at hg
    |some e=>
     simp[he] at hg;have h1:=hall e (List.mem_of_getElem? he);exact⟨(List.getElem?_eq_some_iff.1 he).1,by rw[←h1];exact(List.getElem?_eq_some_iff.1 hg).1,by rw[←h1];exact(hz i e he).1.symm⟩
   have hE:ER w S m sz es ((List.range (es.length*sz)).map fun k=>us (k / sz) (k % sz)):=by
    refine⟨by simp,fun i e he=>?_⟩;have h1:=hall e (List.mem_of_getElem? he);have hi:=(List.getElem?_eq_some_iff.1 he).1;have hseg:=mul_lt_seg (sz:=sz) hi;refine⟨h1,(hz i e he).2,by simp[h1];omega,fun j c v hc hv=>?_⟩;have hj:j<sz:=by rw[←h1];exact(List.getElem?_eq_some_iff.1 hc).1
    rw[List.getElem?_take,if_pos hj,List.getElem?_drop,List.getElem?_map,List.getElem?_range (by omega)] at hv;simp only[Option.map_some,Option.some.injEq] at hv;have hd:(i*sz+j) / sz=i:=by rw[Nat.add_comm,Nat.add_mul_div_right _ _ hsz,Nat.div_eq_of_lt hj,Nat.zero_add]
    have hmo:(i*sz+j) % sz=j:=by rw[Nat.add_comm,Nat.add_mul_mod_self_right,Nat.mod_eq_of_lt hj]
    rw[hd,hmo] at hv;subst hv;exact(hr i j c (by simp[getc,he,hc])).up
   refine⟨_,hE, ?_⟩;refine Src.ofSlice w hk _ es.length cap _ hE.len (fun k u hku=>?_) (hE.one_cells hsz)
   have hkl:k<es.length*sz:=by
    have:=(List.getElem?_eq_some_iff.1 hku).1;simpa using this
   rw[List.getElem?_map,List.getElem?_range hkl] at hku;simp only[Option.map_some,Option.some.injEq] at hku;subst hku;have hi:k / sz<es.length:=(Nat.div_lt_iff_lt_mul hsz).2 hkl;have hj:k % sz<sz:=Nat.mod_lt _ hsz;have h1:=hall es[k / sz] (List.getElem_mem _);have hjl:k % sz<(es[k / sz]).length:=by rw[h1];exact hj
   have hgc:getc es (k / sz) (k % sz)=some (es[k / sz])[k % sz]:=by simp[getc,hi,hjl]
   have:=hcc _ _ _ hgc;have hs:=(key _ _ _ hgc).2.2;subst hs;rw[Addr.add_n];have hkk:k / sz'*sz'+k % sz'=k:=by rw[Nat.mul_comm];exact Nat.div_add_mod k sz'
   rw[←this]
   congr 2
   omega
  ·cases h
theorem Rel.goOn (h:Rel w S F m g) {b s:Nat} {o:AO} {p p':Pl} (hg:g b=some o) (hm:m b=some p) (hs:m s=none) (hb:p'.blk=p.blk) {w':World}
  (he:Ext (fun k=>k≠p.blk) w w') {o':AO} (hc:CR w' S (setm m s p') p' o'):Rel w' S F (setm m s p') (upd (upd g b none) s (some o')):=by
 have ha:=h.apart b o p hg hm;have hS:Ext S w w':=he.mono fun k hk e=>ha.1 (e▸hk)
 have old:∀c o₁ q,c≠s→upd (upd g b none) s (some o') c=some o₁→setm m s p' c=some q→g c=some o₁∧m c=some q∧c≠b:=by
  intro c o₁ q hcs hgc hq;rw[upd_ne hcs] at hgc;by_cases hcb:c=b
  ·subst hcb;rw[upd_same] at hgc;cases hgc
  ·rw[upd_ne hcb] at hgc;rw[setm_ne hcs] at hq;exact⟨hgc,hq,hcb⟩
 have neq:∀c o₁ q,c≠s→upd (upd g b none) s (some o') c=some o₁→setm m s p' c=some q→q.blk≠p.blk:=by
  intro c o₁ q hcs hgc hq;obtain⟨k1,k2,k3⟩:=old c o₁ q hcs hgc hq;exact h.disj _ _ _ _ _ _ k1 hg k2 hm k3
 refine⟨fun c o₁ q hgc hq=>?_,fun c d o₁ o₂ p₁ p₂ g₁ g₂ q₁ q₂ hne=>?_,fun c o₁ q hgc hq=>?_,
  fun k hk=>Nat.lt_of_lt_of_le (h.inS k hk) he.size,fun k hk=>Nat.lt_of_lt_of_le (h.inF k hk) he.size,fun c q hq=>?_,fun k a ha=>(h.glob k a ha).mono hS (fun _ h=>h) (fun _ _ h=>h)⟩
 ·by_cases hcs:c=s
  ·subst hcs;rw[upd_same] at hgc;cases hgc;rw[setm_same] at hq;cases hq;exact hc
  ·obtain⟨k1,k2,k3⟩:=old c o₁ q hcs hgc hq;exact(h.content c o₁ q k1 k2).mono hS (fun _ h=>h) (setm_le hs) (he.same _ (neq c o₁ q hcs hgc hq))
 ·by_cases h1:c=s
  ·by_cases h2:d=s
   ·exact absurd (h1.trans h2.symm) hne
   ·subst h1;rw[setm_same] at q₁;cases q₁;rw[hb];exact(neq d o₂ p₂ h2 g₂ q₂).symm
  ·by_cases h2:d=s
   ·subst h2;rw[setm_same] at q₂;cases q₂;rw[hb];exact neq c o₁ p₁ h1 g₁ q₁
   ·obtain⟨k1,k2,_⟩:=old c o₁ p₁ h1 g₁ q₁;obtain⟨l1,l2,_⟩:=old d o₂ p₂ h2 g₂ q₂;exact h.disj _ _ _ _ _ _ k1 l1 k2 l2 hne
 ·by_cases hcs:c=s
  ·subst hcs;rw[setm_same] at hq;cases hq;rw[hb];exact ha
  ·obtain⟨k1,k2,_⟩:=old c o₁ q hcs hgc hq;exact h.apart _ _ _ k1 k2
 ·by_cases hcs:c=s
  ·subst hcs;rw[setm_same] at hq;cases hq;rw[hb];exact Nat.lt_of_lt_of_le (h.inm b p hm) he.size
  ·rw[setm_ne hcs] at hq;exact Nat.lt_of_lt_of_le (h.inm c q hq) he.size
theorem ZC.size {ez:List AV} {z:Value} (h:ZC ez z):z.cells.size=ez.length:=by
 have:=(h default (fun _=>False) (fun _=>none)).1;simpa using this
theorem size_zeroCells (z:Array Value) (n:Nat):(Builtin.zeroCells z n).size=n*z.size:=by simp[Builtin.zeroCells]
theorem ext_drew (w:World):Ext (fun k=>k<w.heap.size) w w.drew:=⟨rfl,rfl,rfl,Nat.le_refl _,fun _ _=>rfl⟩
theorem Rel.drew (h:Rel w S F m g):Rel w.drew S F m g:=
 ⟨fun b o p hg hm=>(h.content b o p hg hm).mono ((ext_drew w).mono h.inS) (fun _ h=>h) (fun _ _ h=>h) rfl,h.disj,h.apart,h.inS,h.inF,h.inm,fun k a ha=>(h.glob k a ha).mono ((ext_drew w).mono h.inS) (fun _ h=>h) (fun _ _ h=>h)⟩
theorem append_nil_ok {t tx ty e:TypeId} {i:TypeInfo} {z:Value} {ez:List AV} (ht:P.underlying t=some (.slice e)) (hi:P.info? e=some i) (hisz:i.size=sz) (hz:i.zero=some z) (hzc:ZC ez z)
  (hzl:ez.length=sz) {yv:Value} {new:List (List AV)} {news:List Value} (hE:ER w S m sz new news) (hsrc:Src P sz tx yv new.length news w) (hb:new.length*i.bytes≤140737488355328) (hb0:0<i.bytes)
  (hne:new≠[]) (a:Option Addr) {s:Nat} (hs:m s=none) (hr:Rel w S F m g):
  ∃v' w' m',(Builtin.append_ #[t,tx] ty #[.slice a 0 0,yv]).run P w=.ok v' w'∧Ext (fun k=>S k∨F k) w w'∧(∀b q,m b=some q→m' b=some q)∧(∀b,b≠s→m' b=m b)∧
   VR w' S m' (.sl s 0 new.length sz) v'∧Rel w' S F m' (upd g s (some (.cells new)))∧∃p o,m' s=some p∧p.ty=some (e,o):=by
 subst hisz;have hn:0<new.length:=List.length_pos_iff.2 hne
 have hold:(Builtin.firstCells i.size 0 (.slice a 0 0)).run P w.drew=.ok ([]:List Value).toArray w.drew:=by
  cases a with
  |none=>exact run_firstCells_none w.drew i.size 0 0 0
  |some a=>exact run_firstCells_some w.drew i.size 0 a 0 0 [] (by simp) (fun j v hj=>by simp at hj)
 have h63:((0+new.length:Nat):Int)≤9223372036854775807:=by
  have:new.length*1≤new.length*i.bytes:=Nat.mul_le_mul_left _ hb0;omega
 have hrun:=run_append_grow_src w t tx ty e i z ht hi hz a 0 0 [] hold yv new.length news hsrc (by omega) h63 (growslice_fits (by omega) (by simpa using hb));simp only[Nat.zero_add,List.nil_append] at hrun;have hge:=grownCap_ge w new.length 0 e;generalize hcap:grownCap w new.length 0 e=cap at*;have hzs:z.cells.size=i.size:=by rw[hzc.size,hzl]
 have hborn:=hr.drew.born hs (es:=new) (arr:=news.toArray++Builtin.zeroCells z.cells (cap - new.length)) (e:=e) (sz:=i.size) (room:=cap) hge
  (by
    have h1:=hE.len;have h2:cap*i.size=new.length*i.size+(cap - new.length)*i.size:=by rw[←Nat.add_mul];congr 1;omega
    simp only[Array.size_append,List.size_toArray,size_zeroCells,hzs,h1]
    omega)
  (by
    have h1:=hE.len;simp only[Array.toList_append,←h1];rw[List.take_append_of_le_length (by simp),List.take_of_length_le (by simp)]
    exact hE.mono ((ext_drew w).mono hr.inS) (fun _ h=>h) (fun _ _ h=>h))
 have hext:Ext (fun k=>S k∨F k) w (w.drew.alloc (.cells (news.toArray++Builtin.zeroCells z.cells (cap - new.length)) e)):=
  ((ext_drew w).trans (ext_alloc w.drew _) (fun _ h=>h)).old hr
 refine⟨_,_,_,hrun,hext,setm_le hs,fun b hb=>setm_ne hb, ?_,hborn,_,_,setm_same,rfl⟩;have:=VR.sl (w:=w.drew.alloc (.cells (news.toArray++Builtin.zeroCells z.cells (cap - new.length)) e)) (S:=S) s 0 new.length cap ⟨w.heap.size,0,i.size,new.length,cap,some (e,decide (cap=1))⟩ (setm_same (m:=m)) (by simp;exact hge) (by simp) hge (by simp);simpa using this
theorem append_zero_ok {t tx ty e:TypeId} {i:TypeInfo} (ht:P.underlying t=some (.slice e)) (hi:P.info? e=some i) {yv:Value} (hsrc:Src P i.size tx yv 0 [] w) (a:Option Addr):
  (Builtin.append_ #[t,tx] ty #[.slice a 0 0,yv]).run P w=.ok (.slice a 0 0) w:=by
 rcases hsrc.kind with ⟨e',hk⟩|hk<;>cases a<;>simp[Builtin.append_,run_underlying ht,run_underlying hk,sizeOf,typeInfo,hi,hsrc.len,hsrc.cells,storeCells]
theorem append_sl_ok {t tx ty e:TypeId} {i:TypeInfo} {z:Value} {ez:List AV} (ht:P.underlying t=some (.slice e)) (hi:P.info? e=some i) (hisz:i.size=sz) (hz:i.zero=some z) (hzc:ZC ez z)
  (hzl:ez.length=sz) {yv:Value} {new:List (List AV)} {news:List Value} (hE:ER w S m sz new news) (hsrc:Src P sz tx yv new.length news w)
  {b off len:Nat} {xv:Value} (hx:VR w S m (.sl b off len sz) xv) {es:List (List AV)} (hgb:g b=some (.cells es)) (hle:off+len≤es.length)
  (hb:(len+new.length)*i.bytes≤140737488355328) (hb0:0<i.bytes) {s:Nat} (hs:m s=none) (hr:Rel w S F m g):
  (off+len+new.length≤es.length→∃v' w',(Builtin.append_ #[t,tx] ty #[xv,yv]).run P w=.ok v' w'∧Ext (fun k=>S k∨F k) w w'∧
    VR w' S m (.sl b off (len+new.length) sz) v'∧Rel w' S F m (upd g b (some (.cells (es.take (off+len)++new++es.drop (off+len+new.length))))))∧
  (off+len=es.length→∃v' w' m',(Builtin.append_ #[t,tx] ty #[xv,yv]).run P w=.ok v' w'∧Ext (fun k=>S k∨F k) w w'∧(∀b q,m b=some q→m' b=some q)∧(∀b,b≠s→m' b=m b)∧
    VR w' S m' (.sl s 0 (len+new.length) sz) v'∧Rel w' S F m' (upd (upd g b none) s (some (.cells (es.drop off++new))))∧
    ((off=0∧∃p o,m b=some p∧p.ty=some (e,o))→∃p o,m' s=some p∧p.ty=some (e,o))):=by
 subst hisz;generalize hav:AV.sl b off len i.size=av at hx;cases hx<;>simp only[reduceCtorEq,AV.sl.injEq] at hav
 case sl b' off' len' cap p h1 h2 h3 h4 hm=>
 obtain⟨rfl,rfl,rfl,hps⟩:=hav;obtain⟨arr,ae,k1,k2,k3,k4,k5,k6⟩:=(hr.content b _ p hgb hm).erT;have hap:=hr.apart b _ p hgb hm;have hroom:=Nat.mul_le_mul_right p.sz k3;have hcapm:=Nat.mul_le_mul_right p.sz h2;rw[Nat.add_mul] at hcapm
 -- the store in place
 have inplace:len+new.length≤cap→(Builtin.append_ #[t,tx] ty #[.slice (some ⟨p.blk,p.off+off*p.sz,none⟩) len cap,yv]).run P w=
   .ok (.slice (some ⟨p.blk,p.off+off*p.sz,none⟩) (len+new.length) cap) (w.setCells p.blk (p.off+off*p.sz+len*p.sz) news)∧
   p.off+off*p.sz+len*p.sz+news.length≤arr.size:=by
  intro hc;have hcm:=Nat.mul_le_mul_right p.sz hc;rw[Nat.add_mul] at hcm;have hnl:=hE.len;rw[hps] at hnl;have hfit:p.off+off*p.sz+len*p.sz+news.length≤arr.size:=by omega
  refine⟨?_,hfit⟩
  have:=run_append_room_src w t tx ty e i ht hi p.blk (p.off+off*p.sz) len cap yv new.length news hsrc hc (fun j hj=>by
   rw[hps,cell?_cells k1];have:p.off+off*p.sz+len*p.sz+j<arr.size:=by omega
   simp[this]) (fun j hj=>by simp[World.frozen?,k1])
  rw[hps] at this;exact this
 constructor
 ·intro hfull;have hc:len+new.length≤cap:=by omega
  obtain⟨hrun,hfit⟩:=inplace hc;have hext:=setCells_ext p.blk news (p.off+off*p.sz+len*p.sz) w
  have hext':Ext (fun k=>S k∨F k) w (w.setCells p.blk (p.off+off*p.sz+len*p.sz) news):=
   hext.mono fun k hk e=>by subst e;exact hk.elim hap.1 hap.2
  obtain⟨arr',a1,a2⟩:=setCells_heap p.blk news (p.off+off*p.sz+len*p.sz) w arr ae (0,0) k1 hfit;refine⟨_,_,hrun,hext', ?_, ?_⟩
  ·rw[hps];exact .sl b off (len+new.length) cap p hm h1 h2 hc (by omega)
  ·have hsize:arr'.size=arr.size:=by
    have:=congrArg List.length a2;simp at this;omega
   refine hr.write hgb hm hext (CR.mk a1 (by simp;omega) k3 ?_ ?_ (k6.size hsize))
   ·omega
   ·have hmono:∀{a:List (List AV)} {x:List Value},ER w S m p.sz a x→ER (w.setCells p.blk (p.off+off*p.sz+len*p.sz) news) S m p.sz a x:=fun hh=>
     hh.mono (hext.mono fun k hk e=>hap.1 (e▸hk)) (fun _ h=>h) (fun _ _ h=>h)
    have hE':ER w S m p.sz new news:=by rw[←hps];exact hE
    have hER:=((hmono (k5.take (off+len))).append (hmono hE')).append (hmono (k5.drop (off+len+new.length)));have hnl:=hE'.len
    have key:(arr'.toList.drop p.off).take (p.ext*p.sz)=((arr.toList.drop p.off).take (p.ext*p.sz)).take ((off+len)*p.sz)++news++((arr.toList.drop p.off).take (p.ext*p.sz)).drop ((off+len+new.length)*p.sz):=by
     have hseg:(off+len)*p.sz+news.length≤p.ext*p.sz:=by
      rw[hnl,←Nat.add_mul];exact Nat.mul_le_mul_right _ (by omega)
     have hsk:=seg_key arr.toList news p.off (p.ext*p.sz) 0 (p.ext*p.sz) ((off+len)*p.sz) (by omega) hseg (by simp;omega);rw[a2];have e1:p.off+off*p.sz+len*p.sz=p.off+0+(off+len)*p.sz:=by rw[Nat.add_mul];omega
     have e2:(off+len+new.length)*p.sz=(off+len)*p.sz+news.length:=by rw[hnl,Nat.add_mul (off+len)]
     rw[e1,e2,hsk];have e3:((arr.toList.drop p.off).take (p.ext*p.sz)).length=p.ext*p.sz:=by simp;omega
     generalize (arr.toList.drop p.off).take (p.ext*p.sz)=M at*;simp[List.take_of_length_le (by omega:M.length≤p.ext*p.sz),List.drop_of_length_le (by omega:M.length≤0+p.ext*p.sz)];omega
    rw[key];exact hER
 ·intro hend;by_cases hc:len+new.length≤cap
  ·obtain⟨hrun,hfit⟩:=inplace hc;have hext:=setCells_ext p.blk news (p.off+off*p.sz+len*p.sz) w
   have hext':Ext (fun k=>S k∨F k) w (w.setCells p.blk (p.off+off*p.sz+len*p.sz) news):=
    hext.mono fun k hk e=>by subst e;exact hk.elim hap.1 hap.2
   obtain⟨arr',a1,a2⟩:=setCells_heap p.blk news (p.off+off*p.sz+len*p.sz) w arr ae (0,0) k1 hfit;have hE':ER w S m p.sz new news:=by rw[←hps];exact hE
   have hnl:=hE'.len
   have hgo:=hr.goOn (p':=⟨p.blk,p.off+off*p.sz,p.sz,len+new.length,cap,if off=0 then p.ty.map (fun x=>(x.1,false)) else none⟩) hgb hm hs rfl hext (o':=.cells (es.drop off++new)) (by
    refine CR.mk (arr:=arr') (e:=ae) a1 (by simp;omega) hc ?_ ?_ (fun t o ht=>by
     simp only at ht;split at ht
     ·rename_i ho
      simp only[Option.map_eq_some_iff,Prod.mk.injEq] at ht;obtain⟨⟨t',o'⟩,h1,h2,h3⟩:=ht;obtain⟨q1,q2,_⟩:=k6 t' o' h1;exact⟨q1.trans h2,by simp[q2,ho],fun hh=>by rw[←h3] at hh;cases hh⟩
     ·cases ht)
    ·have:=congrArg List.length a2;simp at this;simp only[];omega
    ·have hmono:∀{a:List (List AV)} {x:List Value},ER w S m p.sz a x→ER (w.setCells p.blk (p.off+off*p.sz+len*p.sz) news) S (setm m s ⟨p.blk,p.off+off*p.sz,p.sz,len+new.length,cap,if off=0 then p.ty.map (fun x=>(x.1,false)) else none⟩) p.sz a x:=fun hh=>
      hh.mono (hext.mono fun k hk e=>hap.1 (e▸hk)) (fun _ h=>h) (setm_le hs)
     have hER:=(hmono (k5.drop off)).append (hmono hE')
     have key:(arr'.toList.drop (p.off+off*p.sz)).take ((len+new.length)*p.sz)=((arr.toList.drop p.off).take (p.ext*p.sz)).drop (off*p.sz)++news:=by
      have hext2:p.ext=off+len:=by omega
      have e1:(len+new.length)*p.sz=len*p.sz+news.length:=by rw[hnl,Nat.add_mul]
      rw[a2,e1,hext2,Nat.add_mul];generalize hL:arr.toList=L at*;have hLs:L.length=arr.size:=by rw[←hL];simp
      have e2:L.take (p.off+off*p.sz+len*p.sz)=L.take (p.off+off*p.sz)++(L.drop (p.off+off*p.sz)).take (len*p.sz):=by rw[←List.take_add]
      have e3:(L.take (p.off+off*p.sz)).length=p.off+off*p.sz:=by simp;omega
      have e4:((L.drop (p.off+off*p.sz)).take (len*p.sz)).length=len*p.sz:=by simp;omega
      rw[List.drop_take,List.drop_drop,Nat.add_sub_cancel_left,e2];generalize (L.drop (p.off+off*p.sz)).take (len*p.sz)=M at*;generalize L.take (p.off+off*p.sz)=A at*
      rw[List.append_assoc,List.append_assoc,List.drop_append_of_le_length (by omega),List.drop_of_length_le (by omega),List.nil_append,←List.append_assoc,
       List.take_append_of_le_length (by simp;omega),List.take_of_length_le (by simp;omega)]
     simp only[];rw[key]
     exact hER)
   refine⟨_,_,_,hrun,hext',setm_le hs,fun c hcs=>setm_ne hcs, ?_,hgo,fun⟨h0,p0,o0,q1,q2⟩=>⟨_,false,setm_same,by rw[hm] at q1;cases q1;simp[h0,q2]⟩⟩;rw[hps];have:=VR.sl (w:=w.setCells p.blk (p.off+off*p.sz+len*p.sz) news) (S:=S) s 0 (len+new.length) cap ⟨p.blk,p.off+off*p.sz,p.sz,len+new.length,cap,if off=0 then p.ty.map (fun x=>(x.1,false)) else none⟩ (setm_same (m:=m)) (by simp;omega) (by simp) hc (by simp);simpa using this
  ·have hseg:=(k5.drop off);have hex:p.ext=off+len:=by omega
   have holdl:(((arr.toList.drop p.off).take (p.ext*p.sz)).drop (off*p.sz)).length=len*i.size:=by
    rw[hps,hex,Nat.add_mul];simp;have:=Nat.mul_le_mul_right p.sz k3;rw[hex,Nat.add_mul] at this;omega
   generalize hold:((arr.toList.drop p.off).take (p.ext*p.sz)).drop (off*p.sz)=olds at*
   have hat:∀j v,olds[j]?=some v→w.cell? ((⟨p.blk,p.off+off*p.sz,none⟩:Addr).add j)=some v:=by
    intro j v hj;rw[←hold,List.getElem?_drop,List.getElem?_take] at hj;split at hj
    ·rw[List.getElem?_drop,getElem?_toList] at hj;rw[Addr.add_n,cell?_cells k1,show p.off+off*p.sz+j=p.off+(off*p.sz+j) by omega];exact hj
    ·cases hj
   have hfirst:(Builtin.firstCells i.size len (.slice (some ⟨p.blk,p.off+off*p.sz,none⟩) len cap)).run P w.drew=.ok olds.toArray w.drew:=
    run_firstCells_some w.drew i.size len _ len cap olds holdl (fun j v hj=>by have:=hat j v hj;simpa using this)
   have h63:((len+new.length:Nat):Int)≤9223372036854775807:=by
    have:(len+new.length)*1≤(len+new.length)*i.bytes:=Nat.mul_le_mul_left _ hb0;omega
   have hrun:=run_append_grow_src w t tx ty e i z ht hi hz (some ⟨p.blk,p.off+off*p.sz,none⟩) len cap olds hfirst yv new.length news hsrc (by omega) h63 (growslice_fits (by omega) hb);have hge:=grownCap_ge w (len+new.length) cap e;generalize hgc:grownCap w (len+new.length) cap e=gc at*;have hzs:z.cells.size=i.size:=by rw[hzc.size,hzl]
   have hE2:ER w S m i.size (es.drop off++new) (olds++news):=by
    refine ER.append ?_ hE;rw[hps];exact hseg
   have hdl:(es.drop off++new).length=len+new.length:=by simp;omega
   have hborn:=(hr.kill b).drew.born hs (es:=es.drop off++new) (arr:=(olds++news).toArray++Builtin.zeroCells z.cells (gc - (len+new.length))) (e:=e) (sz:=i.size) (room:=gc) (by omega)
    (by
      have h1:=hE2.len;rw[hdl] at h1;have h2:gc*i.size=(len+new.length)*i.size+(gc - (len+new.length))*i.size:=by rw[←Nat.add_mul];congr 1;omega
      simp only[Array.size_append,List.size_toArray,size_zeroCells,hzs,h1]
      omega)
    (by
      have h1:=hE2.len;simp only[Array.toList_append,←h1];rw[List.take_append_of_le_length (by simp),List.take_of_length_le (by simp)]
      exact hE2.mono ((ext_drew w).mono hr.inS) (fun _ h=>h) (fun _ _ h=>h))
   have hext:Ext (fun k=>S k∨F k) w (w.drew.alloc (.cells ((olds++news).toArray++Builtin.zeroCells z.cells (gc - (len+new.length))) e)):=
    ((ext_drew w).trans (ext_alloc w.drew _) (fun _ h=>h)).old hr
   refine⟨_,_,_,hrun,hext,setm_le hs,fun c hcs=>setm_ne hcs, ?_,hborn,fun _=>⟨_,_,setm_same,rfl⟩⟩;have:=VR.sl (w:=w.drew.alloc (.cells ((olds++news).toArray++Builtin.zeroCells z.cells (gc - (len+new.length))) e)) (S:=S) s 0 (len+new.length) gc ⟨w.heap.size,0,i.size,(es.drop off++new).length,gc,some (e,decide (gc=1))⟩ (setm_same (m:=m)) (by simp;omega) (by simp) hge (by simp;omega);simpa using this
end
end Go.Av
namespace Go.Av
section
variable {P:Program} {w:World} {S F:Nat→Prop} {m:Pm} {g:Heap} {sz:Nat}
theorem size_part {cs:List AV} {vs:List Value} (h:LR w S m cs vs) (o n:Nat):LR w S m ((cs.drop o).take n) ((vs.drop o).take n):=(h.drop o).take n
theorem part_ok {t:TypeId} {i:TypeInfo} {d:TypeDesc} {gg:Bool} (hi:P.info? t=some i) (hu:P.underlying t=some d) (hd:d.isRow=gg) {cs:List AV} {vs:List Value} (hl:LR w S m cs vs)
  {o:Nat} (hle:o+i.size≤cs.length) {v:AV} (hv:ofCells gg ((cs.drop o).take i.size)=some v):∃v',(part t ⟨vs⟩ o).run P w=.ok v' w∧VR w S m v v':=by
 obtain⟨h1,h2⟩:=VR.ofCells (size_part hl o i.size) hv
 cases hgg:gg with
 |true=>
  refine⟨_, ?_,h1 hgg⟩;simp[part,run_isAgg hu,hd,hgg,sizeOf,typeInfo,hi,List.extract_eq_take_drop,Nat.add_sub_cancel_left]
 |false=>
  obtain⟨v',hv',hr⟩:=h2 hgg;refine⟨v', ?_,hr⟩
  have hvo:vs[o]?=some v':=by
   have:((vs.drop o).take i.size)[0]?=some v':=by rw[hv'];rfl
   rw[List.getElem?_take] at this;split at this
   ·rw[List.getElem?_drop] at this;simpa using this
   ·cases this
  simp[part,run_isAgg hu,hd,hgg,hvo]
theorem field_ok {t:TypeId} {ti:TI} (hT:TyOK P t ti) {a v:AV} {f:Nat} {c:Cls} {u:Upd} {x:Value} (h:aField ti a f=some (c,v,u)) (hx:VR w S m a x):
  u=[]∧∃v',(Instr.fieldAt t x f).run P w=.ok v' w∧VR w S m v v':=by
 unfold aField at h;split at h
 ·rename_i fs hk
  obtain⟨d,hund,_,hkind⟩:=hT.und;rw[hk] at hkind;obtain⟨fields,hd,_,hall⟩:=hkind;subst hd;split at h
  ·rename_i o s gg hf
   obtain⟨fd,i,d',h1,h2,h3,h4,h5,h6⟩:=hall f o s gg hf;split at h
   ·cases h
   ·rename_i hs0
    have hsz:¬i.size=0:=by omega
    split at h
    ·rename_i b i' off
     simp only[Option.some.injEq,Prod.mk.injEq] at h;obtain⟨_,hv,hu⟩:=h;subst hv;refine⟨hu.symm, ?_⟩
     cases hx with
     |ptr _ _ _ p hm=>
     refine⟨_, ?_,.ptr b i' (off+o) p hm⟩;simp[Instr.fieldAt,run_underlying hund,h1,Instr.sureAddr,fieldPlace,sizeOf,typeInfo,h3,hsz,Addr.add_n,h2,Nat.add_assoc]
    ·rename_i cs off
     simp only[Option.some.injEq,Prod.mk.injEq] at h;obtain⟨_,hv,hu⟩:=h;subst hv;refine⟨hu.symm, ?_⟩
     cases hx with
     |rp _ _ blk o' us hS hc hr=>
     refine⟨_, ?_,.rp cs (off+o) blk o' us hS hc hr⟩;simp[Instr.fieldAt,run_underlying hund,h1,Instr.sureAddr,fieldPlace,sizeOf,typeInfo,h3,hsz,Addr.add_n,h2,Nat.add_assoc]
    ·cases h
  ·cases h
 ·cases h
theorem fieldV_ok {t:TypeId} {ti:TI} (hT:TyOK P t ti) {a v:AV} {f:Nat} {c:Cls} {u:Upd} {x:Value} (h:aFieldV ti a f=some (c,v,u)) (hx:VR w S m a x):
  u=[]∧∃v',(Instr.field t x f).run P w=.ok v' w∧VR w S m v v':=by
 unfold aFieldV at h;split at h
 ·rename_i fs cs hk
  obtain⟨d,hund,_,hkind⟩:=hT.und;rw[hk] at hkind;obtain⟨fields,hd,_,hall⟩:=hkind;subst hd;split at h
  ·rename_i o s gg hf
   obtain⟨fd,i,d',h1,h2,h3,h4,h5,h6⟩:=hall f o s gg hf;split at h
   ·rename_i hle
    split at h
    ·rename_i v1 hv1
     simp only[Option.some.injEq,Prod.mk.injEq] at h;obtain⟨_,hv,hu⟩:=h;subst hv;refine⟨hu.symm, ?_⟩
     cases hx with
     |agg _ vs hl hr=>
     subst h4;obtain⟨v',k1,k2⟩:=part_ok (w:=w) (S:=S) (m:=m) h3 h5 h6 ⟨hl,hr⟩ hle hv1;refine⟨v', ?_,k2⟩;simp[Instr.field,run_underlying hund,h1,asAgg,h2,k1]
    ·cases h
   ·cases h
  ·cases h
 ·cases h
theorem indexAddr_ok {t:TypeId} {ti:TI} (hT:TyOK P t ti) {a ix v:AV} {c:Cls} {u:Upd} {x y:Value} (h:aIndexAddr ti a ix=some (c,v,u)) (hx:VR w S m a x) (hy:VR w S m ix y):
  u=[]∧∃v',(Instr.indexAt t x y).run P w=.ok v' w∧VR w S m v v':=by
 obtain⟨d,hund,_,hkind⟩:=hT.und;unfold aIndexAddr at h;split at h
 ·rename_i esz eb ez b off len sz k i hk
  rw[hk] at hkind;obtain⟨e,ei,z,hd,hi,hisz,_⟩:=hkind;subst hd;split at h
  ·rename_i hc
   obtain⟨h0,h1,rfl⟩:=hc;simp only[Option.some.injEq,Prod.mk.injEq] at h;obtain⟨_,hv,hu⟩:=h;subst hv;refine⟨hu.symm, ?_⟩;cases hy;generalize hav:AV.sl b off len sz=av at hx;cases hx<;>simp only[reduceCtorEq,AV.sl.injEq] at hav
   case sl b' off' len' cap p _ _ _ _ hm=>
   obtain⟨rfl,rfl,rfl,hps⟩:=hav;refine⟨_, ?_,.ptr b (off+i.toNat) 0 p hm⟩;simp[Instr.indexAt,run_underlying hund,asIntOf,h0,h1,sizeOf,typeInfo,hi,hisz,Addr.add_n,hps,Nat.add_mul,Nat.add_assoc]
  ·cases h
 ·rename_i esz eb ez es k i hk
  rw[hk] at hkind;obtain⟨e,ei,z,hd,hi,hisz,_⟩:=hkind;subst hd;split at h
  ·rename_i h0
   split at h
   ·rename_i el hel
    split at h
    ·rename_i hlen
     simp only[Option.some.injEq,Prod.mk.injEq] at h;obtain⟨_,hv,hu⟩:=h;subst hv;refine⟨hu.symm, ?_⟩;cases hy;have hlt:i.toNat<es.length:=(List.getElem?_eq_some_iff.1 hel).1
     cases hx with
     |ron a cap=>simp at hlt
     |ro _ blk o sz cap us hS hz hcap hcc hr=>
     have h1:i<(es.length:Int):=by omega
     have hsz:sz=esz:=by rw[←hlen];exact(hz _ _ hel).1.symm
     subst hsz;refine⟨_, ?_,.rp el 0 blk (o+i.toNat*sz) (us i.toNat) hS (fun j c hj=>hcc i.toNat j c (by simp[getc,hel,hj])) (fun j c hj=>hr i.toNat j c (by simp[getc,hel,hj]))⟩;simp[Instr.indexAt,run_underlying hund,asIntOf,h0,h1,sizeOf,typeInfo,hi,hisz,Addr.add_n]
    ·cases h
   ·cases h
  ·cases h
 ·rename_i n esz gg b j off k i hk
  rw[hk] at hkind;obtain⟨e,ei,d',hd,hi,hisz,_⟩:=hkind;subst hd;split at h
  ·rename_i hc
   obtain⟨h0,h1⟩:=hc;simp only[Option.some.injEq,Prod.mk.injEq] at h;obtain⟨_,hv,hu⟩:=h;subst hv;refine⟨hu.symm, ?_⟩;cases hy
   cases hx with
   |ptr _ _ _ p hm=>
   refine⟨_, ?_,.ptr b j (off+i.toNat*esz) p hm⟩;simp[Instr.indexAt,run_underlying hund,asIntOf,h0,h1,sizeOf,typeInfo,hi,hisz,Addr.add_n,Instr.sureAddr,Nat.add_assoc]
  ·cases h
 ·rename_i n esz gg cs off k i hk
  rw[hk] at hkind;obtain⟨e,ei,d',hd,hi,hisz,_⟩:=hkind;subst hd;split at h
  ·rename_i hc
   obtain⟨h0,h1⟩:=hc;simp only[Option.some.injEq,Prod.mk.injEq] at h;obtain⟨_,hv,hu⟩:=h;subst hv;refine⟨hu.symm, ?_⟩;cases hy
   cases hx with
   |rp _ _ blk o us hS hcc hr=>
   refine⟨_, ?_,.rp cs (off+i.toNat*esz) blk o us hS hcc hr⟩;simp[Instr.indexAt,run_underlying hund,asIntOf,h0,h1,sizeOf,typeInfo,hi,hisz,Addr.add_n,Instr.sureAddr,Nat.add_assoc]
  ·cases h
 ·cases h
theorem index_ok {t:TypeId} {ti:TI} (hT:TyOK P t ti) {a ix v:AV} {c:Cls} {u:Upd} {x y:Value} (h:aIndex ti a ix=some (c,v,u)) (hx:VR w S m a x) (hy:VR w S m ix y):
  u=[]∧∃v',(Instr.index t x y).run P w=.ok v' w∧VR w S m v v':=by
 obtain⟨d,hund,_,hkind⟩:=hT.und;unfold aIndex at h;split at h
 ·rename_i n esz gg cs k i hk
  rw[hk] at hkind;obtain⟨e,ei,d',hd,hi,hisz,hu',hd'⟩:=hkind;subst hd;split at h
  ·rename_i hc
   obtain⟨h0,h1,h2⟩:=hc;split at h
   ·rename_i v1 hv1
    simp only[Option.some.injEq,Prod.mk.injEq] at h;obtain⟨_,hv,hu⟩:=h;subst hv;refine⟨hu.symm, ?_⟩;cases hy
    cases hx with
    |agg _ vs hl hr=>
    subst hisz;obtain⟨v',k1,k2⟩:=part_ok (w:=w) (S:=S) (m:=m) hi hu' hd' ⟨hl,hr⟩ h2 hv1;refine⟨v', ?_,k2⟩;simp[Instr.index,run_underlying hund,asIntOf,h0,h1,sizeOf,typeInfo,hi,k1]
   ·cases h
  ·cases h
 ·rename_i s k i hk
  rw[hk] at hkind
  replace hkind:d=.string:=hkind
  subst hkind;split at h
  ·rename_i h0
   split at h
   ·rename_i b hb
    simp only[Option.some.injEq,Prod.mk.injEq] at h;obtain⟨_,hv,hu⟩:=h;subst hv;refine⟨hu.symm, ?_⟩;cases hy;cases hx;refine⟨.int .u8 b.toNat, ?_,.int _ _⟩;simp[Instr.index,run_underlying hund,asIntOf,h0,hb]
   ·cases h
  ·cases h
 ·cases h
theorem extract_ok {cs:List AV} {i:Nat} {v:AV} {x:Value} (h:cs[i]?=some v) (hx:VR w S m (.tup cs) x):∃v',(Instr.extract x i).run P w=.ok v' w∧VR w S m v v':=by
 cases hx with
 |tup _ vs hl hr=>
 obtain⟨u,hu,hru⟩:=LR.get ⟨hl,hr⟩ h;refine⟨u, ?_,hru⟩;simp[Instr.extract,hu]
theorem len_ok {t ty:TypeId} {ti:TI} (hT:TyOK P t ti) {hc:Heap} {n0:Nat} {a v:AV} {c:Cls} {u:Upd} {x:Value} (hl:lenT ti a=true) (h:aLen hc n0 a=some (c,v,u)) (hx:VR w S m a x)
  (hcont:c≠.P→∀b o p,(c=.L→b<n0)→hc b=some o→m b=some p→CR w S m p o):
  u=[]∧∃v',(Builtin.len_ #[t] ty #[x]).run P w=.ok v' w∧VR w S m v v':=by
 obtain⟨d,hu,_,hkind⟩:=hT.und;cases hx<;>simp only[aLen,Option.some.injEq,Prod.mk.injEq,reduceCtorEq] at h<;>simp only[lenT,Bool.false_eq_true] at hl
 case str=>
  split at hl
  ·rename_i hk
   rw[hk] at hkind
   replace hkind:d=.string:=hkind
   subst hkind;obtain⟨_,rfl,rfl⟩:=h;exact⟨rfl,_,by simp[Builtin.len_,run_underlying hu,goInt],.int _ _⟩
  ·cases hl
 case mp b p hp=>
  split at hl
  ·rename_i hk
   rw[hk] at hkind;obtain⟨_,_,_,_,rfl,_⟩:=hkind;split at h
   ·rename_i es hh
    simp only[Option.some.injEq,Prod.mk.injEq] at h;obtain⟨rfl,rfl,rfl⟩:=h;obtain⟨en,cl,e1,e2,_⟩:=hcont (by unfold rdCls;split<;>simp) b _ p (fun hL=>rdCls_L (a:=.mp b) hL rfl) hh hp;have hget:(getObj p.blk).run P w=.ok (.map en cl) w:=by simp[getObj,Sem.run,e1]
    exact⟨rfl,_,by simp[Builtin.len_,run_underlying hu,goInt,hget,e2],.int _ _⟩
   ·cases h
  ·cases hl
 case nilm=>
  split at hl
  ·rename_i hk
   rw[hk] at hkind;obtain⟨_,_,_,_,rfl,_⟩:=hkind;obtain⟨_,rfl,rfl⟩:=h;exact⟨rfl,_,by simp[Builtin.len_,run_underlying hu,goInt],.int _ _⟩
  ·cases hl
 all_goals
  split at hl
  ·rename_i hk
   rw[hk] at hkind;obtain⟨e,_,_,rfl,_⟩:=hkind;obtain⟨_,rfl,rfl⟩:=h;exact⟨rfl,_,by simp[Builtin.len_,run_underlying hu,goInt],.int _ _⟩
  ·cases hl
theorem bits_ok {op:BinOp} {k:IntKind} {a b r:Int} (h:bitsOf op k a b=some r):(Op.intBits op k a b).run P w=.ok (.int k r) w:=by
 unfold bitsOf at h;cases op<;>simp only[Option.some.injEq,reduceCtorEq] at h<;>subst h<;>simp[Op.intBits]
theorem eqA_ok {Θ:Tab} (hT:TabOK P Θ) {ty:TypeId} {x y:AV} {r:Bool} {xv yv:Value} (h:aEq (Θ ty) x y=some r) (hx:VR w S m x xv) (hy:VR w S m y yv):
  (Op.equal ty xv yv).run P w=.ok r w∧∀op ox oy,(eqGuard op ty ox oy xv yv).run P w=.ok () w:=by
 unfold aEq at h;split at h
 ·rename_i a b
  split at h
  ·rename_i hk
   simp only[Option.some.injEq] at h;subst h
   cases hti:Θ ty with
   |none=>simp[hti] at hk
   |some ti=>
    simp[hti] at hk;obtain⟨d,hu,_,hkind⟩:=(hT ty ti hti).und;rw[hk] at hkind
    replace hkind:d=.bool:=hkind
    subst hkind;cases hx;cases hy
    refine⟨by
     have e:∀a b:Value,Op.equal ty a b=Op.equalIn (9999+1) ty a b:=fun _ _=>rfl
     rw[e,Op.equalIn]
     simp only[Sem.run_bind,run_underlying hu,Result.andThen_ok,Sem.run_pure],fun op ox oy=>by cases op<;>simp[eqGuard]⟩
  ·cases h
 ·rename_i xs ys
  split at h
  ·rename_i ti hti
   split at h
   ·rename_i ks hks
    cases hx with
    |agg _ us hl hr=>
    cases hy with
    |agg _ vs hl' hr'=>
    obtain⟨h1,h2⟩:=(hT ty ti hti).eq ks hks xs ys us vs w S m r ⟨hl,hr⟩ ⟨hl',hr'⟩ h;refine⟨h2,fun op ox oy=>?_⟩;cases op<;>simp[eqGuard,program,Sem.run,h1]
   ·cases h
  ·cases h
 ·cases h
theorem bin_ok {Θ:Tab} (hT:TabOK P Θ) {op:BinOp} {ty:TypeId} {ox oy:Operand} {x y v:AV} {xv yv:Value} (h:aBin Θ op ty x y=some v) (hx:VR w S m x xv) (hy:VR w S m y yv):
  ∃v',(do eqGuard op ty ox oy xv yv;binOp op ty xv yv:Sem Value).run P w=.ok v' w∧VR w S m v v':=by
 unfold aBin at h;split at h
 case h_1|h_2=>
  split at h
  ·rename_i h0
   simp only[Option.some.injEq] at h;subst h;cases hx;cases hy;have h0':¬(_:Int)<0:=Int.not_lt.2 h0;exact⟨_,by simp[eqGuard,binOp,Op.shift,h0'],.int _ _⟩
  ·cases h
 case h_3|h_4|h_5=>
  split at h
  ·rename_i h0
   simp only[Option.some.injEq] at h;subst h0 h;cases hx;cases hy;exact⟨_,by simp[eqGuard,binOp,Op.intArith],.int _ _⟩
  ·cases h
 case h_6|h_7=>
  split at h
  ·rename_i h0
   simp only[Option.some.injEq] at h;obtain⟨rfl,hb⟩:=h0;subst h;cases hx;cases hy;exact⟨_,by simp[eqGuard,binOp,Op.intDiv,hb],.int _ _⟩
  ·cases h
 case h_8|h_9|h_10|h_11=>
  split at h
  ·rename_i h0
   subst h0;simp only[Option.map_eq_some_iff] at h;obtain⟨r,hr,rfl⟩:=h;cases hx;cases hy;exact⟨_,by simp[eqGuard,binOp,bits_ok hr],.int _ _⟩
  ·cases h
 case h_12|h_13|h_14|h_15|h_16|h_17=>
  split at h
  ·rename_i h0
   simp only[Option.some.injEq] at h;subst h0 h;cases hx;cases hy;exact⟨_,by simp[eqGuard,binOp,Op.intCmp],.bool _⟩
  ·cases h
 case h_18|h_20=>
  simp only[Option.map_eq_some_iff] at h;obtain⟨r,hr,rfl⟩:=h;obtain⟨h1,h2⟩:=eqA_ok hT hr hx hy;cases hx;cases hy;exact⟨_,by simp[h2,binOp,h1],.bool _⟩
 case h_19|h_21=>
  simp only[Option.map_eq_some_iff] at h;obtain⟨r,hr,rfl⟩:=h;obtain⟨h1,h2⟩:=eqA_ok hT hr hx hy;cases hx;cases hy;exact⟨_,by simp[h2,binOp,h1],.bool _⟩
 case h_22=>cases h
theorem nil_ok {Θ:Tab} (hT:TabOK P Θ) {op:BinOp} {ty:TypeId} {ox:Operand} {oy:Operand} {x v:AV} {xv yv:Value} (h:aNil Θ op ty x oy=some v) (hx:VR w S m x xv) (hy:∀c,oy=.const c→yv=c):
  ∃v',(do eqGuard op ty ox oy xv yv;binOp op ty xv yv:Sem Value).run P w=.ok v' w∧VR w S m v v':=by
 unfold aNil at h;split at h
 ·split at h
  ·rename_i b off len sz k1 k2 k3 hk
   simp only[Option.some.injEq] at h;subst h;have hyv:=hy _ rfl;subst hyv
   cases hti:Θ ty with
   |none=>simp[hti] at hk
   |some ti=>
    simp[hti] at hk;obtain⟨d,hu,_,hkind⟩:=(hT ty ti hti).und;rw[hk] at hkind;obtain⟨e,i,z,rfl,_⟩:=hkind;cases hx;have he:∀a b:Value,Op.equal ty a b=Op.equalIn (9999+1) ty a b:=fun _ _=>rfl
    have e1:∀(ad:Addr) (n cap:Nat),(Op.equal ty (.slice (some ad) n cap) (.slice none 0 0)).run P w=.ok false w:=fun ad n cap=>by
     rw[he,Op.equalIn];simp only[Sem.run_bind,run_underlying hu,Result.andThen_ok,Sem.run_pure]
    have e2:∀(ad:Addr) (n cap:Nat),(eqGuard .eql ty ox (.const (.slice none 0 0)) (.slice (some ad) n cap) (.slice none 0 0)).run P w=.ok () w:=fun ad n cap=>by simp[eqGuard]
    exact⟨.bool false,by simp[e2,binOp,e1],.bool _⟩
  ·cases h
 ·cases h
theorem un_ok {op:UnOp} {x v:AV} {xv:Value} (h:aUn op x=some v) (hx:VR w S m x xv):∃v',(Op.unary op xv).run P w=.ok v' w∧VR w S m v v':=by
 unfold aUn at h;split at h
 ·simp only[Option.some.injEq] at h;subst h;cases hx;exact⟨_,by simp[Op.unary],.bool _⟩
 ·simp only[Option.some.injEq] at h;subst h;cases hx;exact⟨_,by simp[Op.unary,Op.intArith],.int _ _⟩
 ·cases h
theorem conv_ok {Θ:Tab} (hT:TabOK P Θ) {src dst:TypeId} {d0:TypeDesc} (hs:P.underlying src=some d0) {x v:AV} {xv:Value} (h:aConv Θ dst x=some v) (hx:VR w S m x xv):
  ∃v',(convert src dst xv).run P w=.ok v' w∧VR w S m v v':=by
 unfold aConv at h;split at h
 ·rename_i k k' n hk
  simp only[Option.some.injEq] at h;subst h;cases hx
  cases hti:Θ dst with
  |none=>simp[hti] at hk
  |some ti=>
   simp[hti] at hk;obtain⟨d,hu,_,hkind⟩:=(hT dst ti hti).und;rw[hk] at hkind
   replace hkind:d=.int k:=hkind
   subst hkind;exact⟨_,by simp[convert,run_underlying hs,run_underlying hu,Conv.intToInt],.int _ _⟩
 ·rename_i s hk
  simp only[Option.some.injEq] at h;subst h;cases hx
  cases hti:Θ dst with
  |none=>simp[hti] at hk
  |some ti=>
   simp[hti] at hk;obtain⟨d,hu,_,hkind⟩:=(hT dst ti hti).und;rw[hk] at hkind
   replace hkind:d=.string:=hkind
   subst hkind;exact⟨_,by simp[convert,run_underlying hs,run_underlying hu],.str _⟩
 ·cases h
theorem min_ok {ts:Array TypeId} {ty:TypeId} {as:List AV} {vs:List Value} {v:AV} (hl:LR w S m as vs) (h:minInt as=some v):
  ∃v',(Builtin.min_ ts ty vs.toArray).run P w=.ok v' w∧VR w S m v v':=by
 unfold minInt at h;split at h
 ·rename_i k x k' y
  split at h
  ·rename_i hk
   simp only[Option.some.injEq] at h;subst hk h
   match vs,hl with
   |[a,b],hl=>
    have h1:=hl.2 0 _ a rfl rfl;have h2:=hl.2 1 _ b rfl rfl;cases h1;cases h2;exact⟨_,by simp[Builtin.min_,Builtin.min2],.int _ _⟩
  ·cases h
 ·cases h
def OV (w:World) (S:Nat→Prop) (m:Pm):Option AV→Option Value→Prop
 |none,none=>True
 |some a,some v=>VR w S m a v
 |_,_=>False
theorem bd_ok {d y:Nat} {o:Option AV} {ov:Option Value} {r:Nat} (h:bd d o=some r) (ho:OV w S m o ov) (hle:r≤y) (code:BoundsCode):
  (ov=none∧r=d)∨∃v,ov=some v∧(Instr.sliceBound v y code).run P w=.ok r w:=by
 cases o with
 |none=>
  cases ov with
  |none=>simp[bd] at h;exact .inl ⟨rfl,h.symm⟩
  |some _=>exact ho.elim
 |some a=>
  cases ov with
  |none=>exact ho.elim
  |some v=>
   refine .inr ⟨v,rfl, ?_⟩;unfold bd at h;split at h
   ·rename_i he;cases he
   ·rename_i k i he
    cases he;split at h
    ·rename_i h0
     simp only[Option.some.injEq] at h;subst h;cases ho;have:i≤(y:Int):=by omega
     simp[Instr.sliceBound,asIntOf,h0,this]
    ·cases h
   ·cases h
end
end Go.Av
namespace Go.Av
section
variable {P:Program} {w:World} {S F:Nat→Prop} {m:Pm} {g:Heap} {sz:Nat}
theorem bounds_ok {isS:Bool} {len cap h l:Nat} {lo hi:Option AV} {lov hiv:Option Value} (hh:bd len hi=some h) (hl:bd 0 lo=some l) (hlo:OV w S m lo lov) (hhi:OV w S m hi hiv)
  (h1:h≤cap) (h2:l≤h):(Instr.sliceBounds isS len cap lov hiv none).run P w=.ok (l,h,cap) w:=by
 unfold Instr.sliceBounds;rcases bd_ok (P:=P) hh hhi h1 (if isS then .sliceAcap else .sliceAlen) with ⟨rfl,rfl⟩|⟨v,rfl,hv⟩
 ·rcases bd_ok (P:=P) hl hlo h2 .sliceB with ⟨rfl,rfl⟩|⟨v',rfl,hv'⟩
  ·simp
  ·simp[hv']
 ·rcases bd_ok (P:=P) hl hlo h2 .sliceB with ⟨rfl,rfl⟩|⟨v',rfl,hv'⟩
  ·simp[hv]
  ·simp[hv,hv']
theorem slice_ok {t:TypeId} {ti:TI} (hT:TyOK P t ti) {a v:AV} {lo hi mx:Option AV} {lov hiv mxv:Option Value} {c:Cls} {u:Upd} {x:Value} (h:aSlice ti a lo hi mx=some (c,v,u))
  (hx:VR w S m a x) (hlo:OV w S m lo lov) (hhi:OV w S m hi hiv) (hmx:OV w S m mx mxv):u=[]∧∃v',(Instr.sliceAt t x lov hiv mxv).run P w=.ok v' w∧VR w S m v v':=by
 obtain⟨d,hund,_,hkind⟩:=hT.und
 have sl0:∀(esz eb:Nat) (ez:List AV) (k:IntKind) (lenv capv:Nat) (ad:Option Addr),ti.kind=.slice esz eb ez→x=.slice ad lenv capv→mx=some (.int k 0)→
   ∀em:AV,VR w S m em (.slice ad 0 0)→(match bd 1 hi,bd 0 lo with|some 0,some 0=>(some (Cls.P,em,([]:Upd)):Res)|_,_=>none)=some (c,v,u)→
   u=[]∧∃v',(Instr.sliceAt t x lov hiv mxv).run P w=.ok v' w∧VR w S m v v':=by
  intro esz eb ez k lenv capv ad hk hx hmx0 em hem hm;subst hx hmx0;rw[hk] at hkind;obtain⟨e,ei,z,hd,hi',hisz,_⟩:=hkind;subst hd
  cases mxv with
  |none=>exact hmx.elim
  |some mv=>
  replace hmx:VR w S m (.int k 0) mv:=hmx
  cases hmx;split at hm
  ·rename_i hh hl
   simp only[Option.some.injEq,Prod.mk.injEq] at hm;obtain⟨_,rfl,rfl⟩:=hm;refine⟨rfl,.slice ad 0 0, ?_,hem⟩
   have hb0:(Instr.sliceBound (.int k 0) capv .slice3Acap).run P w=.ok 0 w:=by
    have:(0:Int)≤(capv:Int):=by omega
    simp[Instr.sliceBound,asIntOf,this]
   rcases bd_ok (P:=P) (y:=0) hh hhi (Nat.le_refl _) .slice3B with ⟨rfl,h10⟩|⟨hv,rfl,hhv⟩
   ·omega
   ·rcases bd_ok (P:=P) (y:=0) hl hlo (Nat.le_refl _) .slice3C with ⟨rfl,_⟩|⟨lv,rfl,hlv⟩
    ·simp[Instr.sliceAt,run_underlying hund,Instr.slice,Instr.sliceBounds,hb0,hhv,sizeOf,typeInfo,hi']
    ·simp[Instr.sliceAt,run_underlying hund,Instr.slice,Instr.sliceBounds,hb0,hhv,hlv,sizeOf,typeInfo,hi']
  ·cases hm
 unfold aSlice at h;split at h
 ·rename_i esz eb ez b off len sz hk
  rw[hk] at hkind;obtain⟨e,ei,z,hd,hi',hisz,_⟩:=hkind;subst hd
  cases mxv with
  |some _=>exact hmx.elim
  |none=>
  split at h
  ·rename_i hh ll hbh hbl
   split at h
   ·rename_i hc
    obtain⟨h1,h2,h3⟩:=hc;subst h3;simp only[Option.some.injEq,Prod.mk.injEq] at h;obtain⟨_,hv,hu⟩:=h;refine⟨hu.symm, ?_⟩;generalize hav:AV.sl b off len sz=av at hx;cases hx<;>simp only[reduceCtorEq,AV.sl.injEq] at hav
    case sl b' off' len' cap p k1 k2 k3 k4 hm=>
    obtain⟨rfl,rfl,rfl,hps⟩:=hav;have hb:=bounds_ok (P:=P) (isS:=true) (cap:=cap) hbh hbl hlo hhi (by omega) h2
    have hrun:(Instr.sliceAt t (.slice (some ⟨p.blk,p.off+off*p.sz,none⟩) len cap) lov hiv none).run P w=
      .ok (.slice (some (if cap=ll then ⟨p.blk,p.off+off*p.sz,none⟩ else ⟨p.blk,p.off+(off+ll)*p.sz,none⟩)) (hh - ll) (cap - ll)) w:=by
     simp only[Instr.sliceAt,Instr.slice,Sem.run_bind,run_underlying hund,Result.andThen_ok,hb,sizeOf,typeInfo];simp[hi',hisz,hps,Nat.add_mul,Nat.add_assoc,Addr.add_n];split<;>rfl
    rw[hrun];refine⟨_,rfl, ?_⟩;by_cases hl0:ll=0
    ·subst hl0;simp only[if_true] at hv;subst hv;have e1:(if cap=0 then (⟨p.blk,p.off+off*p.sz,none⟩:Addr) else ⟨p.blk,p.off+(off+0)*p.sz,none⟩)=⟨p.blk,p.off+off*p.sz,none⟩:=by split<;>rfl
     rw[e1,hps,Nat.sub_zero,Nat.sub_zero];exact .sl b off hh cap p hm k1 k2 (by omega) (by omega)
    ·rw[if_neg hl0] at hv;by_cases hlh:ll=hh
     ·rw[if_pos hlh] at hv;subst hv;rw[hlh,Nat.sub_self];exact .ron _ _
     ·rw[if_neg hlh] at hv;subst hv;have hne:¬cap=ll:=by omega
      rw[if_neg hne,hps];exact .sl b (off+ll) (hh - ll) (cap - ll) p hm (by omega) (by omega) (by omega) (by omega)
   ·cases h
  ·cases h
 ·rename_i esz eb ez es hk
  rw[hk] at hkind;obtain⟨e,ei,z,hd,hi',hisz,_⟩:=hkind;subst hd
  cases mxv with
  |some _=>exact hmx.elim
  |none=>
  split at h
  ·rename_i hh ll hbh hbl
   split at h
   ·rename_i hc
    obtain⟨h1,h2,h3⟩:=hc;simp only[Option.some.injEq,Prod.mk.injEq] at h;obtain⟨_,hv,hu⟩:=h;subst hv;refine⟨hu.symm, ?_⟩
    cases hx with
    |ron a cap=>
     simp at h1;subst h1;have hl0:ll=0:=by omega
     subst hl0;have hb:=bounds_ok (P:=P) (isS:=true) (cap:=cap) hbh hbl hlo hhi (by omega) h2;rw[List.length_nil] at hb;refine⟨.slice a 0 cap, ?_,by simpa using .ron a cap⟩;simp only[Instr.sliceAt,Instr.slice,Sem.run_bind,run_underlying hund,Result.andThen_ok,List.length_nil,hb,sizeOf,typeInfo];cases a<;>simp[hi',Addr.add,hb]
    |ro _ blk o sz cap us hS hz hcap hcc hr=>
     have hb:=bounds_ok (P:=P) (isS:=true) (cap:=cap) hbh hbl hlo hhi (by omega) h2;by_cases hlh:ll=hh
     ·subst hlh;refine⟨.slice (if cap=ll then some ⟨blk,o,none⟩ else some ⟨blk,o+ll*esz,none⟩) 0 (cap - ll), ?_, ?_⟩
      ·simp only[Instr.sliceAt,Instr.slice,Sem.run_bind,run_underlying hund,Result.andThen_ok,hb,sizeOf,typeInfo];simp[hi',hisz,Addr.add_n]
      ·rw[Nat.sub_self,List.take_zero];exact .ron _ _
     ·have hlt:ll<es.length:=by omega
      have hsz:sz=esz:=by
       have e1:=(hz ll es[ll] (by simp[hlt])).1;have e2:=h3 es[ll] (List.getElem_mem _);omega
      subst hsz;have hlen:((es.drop ll).take (hh - ll)).length=hh - ll:=by simp;omega
      have hne:¬cap=ll:=by omega
      refine⟨.slice (some ⟨blk,o+ll*sz,none⟩) ((es.drop ll).take (hh - ll)).length (cap - ll), ?_, ?_⟩
      ·rw[hlen];simp only[Instr.sliceAt,Instr.slice,Sem.run_bind,run_underlying hund,Result.andThen_ok,hb,sizeOf,typeInfo];simp[hi',hisz,Addr.add_n,hne]
      ·have hget:∀i j c,getc ((es.drop ll).take (hh - ll)) i j=some c→getc es (ll+i) j=some c:=by
        intro i j c hg;unfold getc at*;rw[List.getElem?_take] at hg;split at hg
        ·rw[List.getElem?_drop] at hg;exact hg
        ·cases hg
       refine .ro _ blk (o+ll*sz) sz _ (fun i=>us (ll+i)) hS (fun i e' he=>?_) (by rw[hlen];omega) (fun i j c hg=>?_) (fun i j c hg=>hr _ _ _ (hget i j c hg))
       ·rw[List.getElem?_take] at he;split at he
        ·rw[List.getElem?_drop] at he;exact hz _ _ he
        ·cases he
       ·have:=hcc _ _ _ (hget i j c hg);rw[show o+ll*sz+i*sz+j=o+(ll+i)*sz+j by rw[Nat.add_mul];omega];exact this
   ·cases h
  ·cases h
 ·rename_i esz eb ez hk
  rw[hk] at hkind;obtain⟨e,ei,z,hd,hi',hisz,_⟩:=hkind;subst hd
  cases mxv with
  |some _=>exact hmx.elim
  |none=>
  split at h
  ·rename_i hbh hbl
   simp only[Option.some.injEq,Prod.mk.injEq] at h;obtain⟨_,hv,hu⟩:=h;subst hv;refine⟨hu.symm, ?_⟩
   cases hx with
   |nils=>
    have hb:=bounds_ok (P:=P) (isS:=true) (cap:=0) hbh hbl hlo hhi (Nat.le_refl _) (Nat.le_refl _);refine⟨.slice none 0 0, ?_,.nils⟩;simp only[Instr.sliceAt,Instr.slice,Sem.run_bind,run_underlying hund,Result.andThen_ok,hb,sizeOf,typeInfo];simp[hi']
  ·cases h
 ·rename_i esz eb ez hk
  rw[hk] at hkind;obtain⟨e,ei,z,hd,hi',hisz,_⟩:=hkind;subst hd
  cases mxv with
  |some _=>exact hmx.elim
  |none=>
  split at h
  ·rename_i hbh hbl
   simp only[Option.some.injEq,Prod.mk.injEq] at h;obtain⟨_,hv,hu⟩:=h;subst hv;refine⟨hu.symm, ?_⟩
   cases hx with
   |emp a=>
    have hb:=bounds_ok (P:=P) (isS:=true) (cap:=0) hbh hbl hlo hhi (Nat.le_refl _) (Nat.le_refl _);refine⟨.slice a 0 0, ?_,.emp a⟩;simp only[Instr.sliceAt,Instr.slice,Sem.run_bind,run_underlying hund,Result.andThen_ok,hb,sizeOf,typeInfo];cases a<;>simp[hi']
  ·cases h
 ·rename_i esz eb ez hk
  rw[hk] at hkind;obtain⟨e,ei,z,hd,hi',hisz,_⟩:=hkind;subst hd
  cases mxv with
  |some _=>exact hmx.elim
  |none=>
  split at h
  ·rename_i hbh hbl
   simp only[Option.some.injEq,Prod.mk.injEq] at h;obtain⟨_,hv,hu⟩:=h;subst hv;refine⟨hu.symm, ?_⟩
   cases hx with
   |emn a=>
    have hb:=bounds_ok (P:=P) (isS:=true) (cap:=0) hbh hbl hlo hhi (Nat.le_refl _) (Nat.le_refl _);refine⟨.slice (some a) 0 0, ?_,.emn a⟩;simp only[Instr.sliceAt,Instr.slice,Sem.run_bind,run_underlying hund,Result.andThen_ok,hb,sizeOf,typeInfo];simp[hi']
  ·cases h
 ·rename_i esz eb ez b off len sz k hk
  cases hx with
  |sl=>exact sl0 esz eb ez k _ _ _ hk rfl rfl .emn (.emn _) h
 ·rename_i esz eb ez k hk
  cases hx with
  |emn=>exact sl0 esz eb ez k _ _ _ hk rfl rfl .emn (.emn _) h
 ·rename_i esz eb ez es k hk
  cases hx with
  |ron=>exact sl0 esz eb ez k _ _ _ hk rfl rfl .emp (.emp _) h
  |ro=>exact sl0 esz eb ez k _ _ _ hk rfl rfl .emp (.emp _) h
 ·rename_i esz eb ez k hk
  cases hx with
  |nils=>exact sl0 esz eb ez k _ _ _ hk rfl rfl .emp (.emp _) h
 ·rename_i esz eb ez k hk
  cases hx with
  |emp=>exact sl0 esz eb ez k _ _ _ hk rfl rfl .emp (.emp _) h
 ·rename_i s hk
  rw[hk] at hkind
  replace hkind:d=.string:=hkind
  subst hkind
  cases mxv with
  |some _=>exact hmx.elim
  |none=>
  split at h
  ·rename_i hh ll hbh hbl
   split at h
   ·rename_i hc
    obtain⟨h1,h2⟩:=hc;simp only[Option.some.injEq,Prod.mk.injEq] at h;obtain⟨_,hv,hu⟩:=h;subst hv;refine⟨hu.symm, ?_⟩
    cases hx with
    |str=>
     have hb:=bounds_ok (P:=P) (isS:=false) (cap:=s.size) hbh hbl hlo hhi h1 h2;refine⟨.string (s.extract ll hh), ?_,.str _⟩;simp only[Instr.sliceAt,Instr.slice,Sem.run_bind,run_underlying hund,Result.andThen_ok,hb];simp[hb]
   ·cases h
  ·cases h
 ·cases h
end
end Go.Av
