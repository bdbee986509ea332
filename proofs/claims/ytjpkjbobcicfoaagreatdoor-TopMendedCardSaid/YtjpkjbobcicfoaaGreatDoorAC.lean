/-
  Further operations on abstract values: strings, nil, typed blocks, maps' entries. Conditions: none.
-/
import Derived.Lib.Builder
import Derived.Lib.UnsafeStr
import Derived.Laws.IdiomCopy
import Derived.Test.YtjpkjbobcicfoaaGreatDoorAB
set_option linter.unusedSimpArgs false
set_option linter.unusedVariables false
namespace Go.Av
def gB:TypeId:=119
def gU:TypeId:=5
def plain:AV→AV
 | .tp b _=> .ptr b 0 0
 | .sd b i _=> .ptr b i 0
 | .ts b off len sz _=> .sl b off len sz
 |a=>a
def plainF (t:Fr):Fr:=fun x=>plain (t x)
def lEq:List UInt8→List UInt8→Bool
 |[],[]=>true
 |a::l,b::m=>Nat.beq a.toNat b.toNat && lEq l m
 |_,_=>false
def bsEq (a b:ByteArray):Bool:=lEq a.data.toList b.data.toList
def sCat (a b:ByteArray):ByteArray:=⟨(a.data.toList++b.data.toList).toArray⟩
def isNilP:AV→Option Bool
 | .nilp=>some true
 | .ptr _ _ _| .tp _ _| .sd _ _ _| .rp _ _=>some false
 |_=>none
def ptrB:AV→Option (Nat×Nat×Nat)
 | .ptr b i off=>some (b,i,off)
 | .tp b _=>some (b,0,0)
 |_=>none
def isNilS:AV→Option Bool
 | .nils=>some true
 | .emn| .sl _ _ _ _| .ts _ _ _ _ _| .ro (_::_)=>some false
 |_=>none
def isNilI:AV→Option Bool
 | .nili=>some true
 | .ifc=>some false
 |_=>none
def nilEq:Option Bool→Option Bool→Option Bool
 |some true,some b=>some b
 |some false,some true=>some false
 |_,_=>none
def eqP (esz:Nat) (x y:AV):Option Bool:=
 match nilEq (isNilP x) (isNilP y) with
 |some b=>some b
 |none=>if esz=0 then none else match ptrB x,ptrB y with
  |some p,some q=>if p=q then some true else none
  |_,_=>none
def isConst:Operand→Bool
 | .const _=>true
 |_=>false
def xEq (Θ:Tab) (ty:Nat) (x y:AV) (yo:Operand):Option Bool:=
 match (Θ ty).map (·.kind) with
 |some (TK.ptr esz _ _)=>eqP esz x y
 |some (TK.slice _ _ _)=>nilEq (isNilS x) (isNilS y)
 |some TK.iface=>if isConst yo||isNilI y==some false then nilEq (isNilI x) (isNilI y) else none
 |_=>none
def xBin (Θ:Tab) (op:BinOp) (ty:Nat) (x y:AV) (yo:Operand):Option AV:=
 match op,x,y with
 | .add,.str a,.str b=>if a.size+b.size≤140737488355328 then some (.str (sCat a b)) else none
 | .eql,.str a,.str b=>some (.bool (bsEq a b))
 | .neq,.str a,.str b=>some (.bool (!bsEq a b))
 | .eql,x,y=>(xEq Θ ty x y yo).map .bool
 | .neq,x,y=>(xEq Θ ty x y yo).map fun b=> .bool (!b)
 |_,_,_=>none
def lenS:AV→Option Nat
 | .nils| .emp| .emn=>some 0
 | .sl _ _ len _| .ts _ _ len _ _=>some len
 | .ro es=>some es.length
 |_=>none
def bytesA:List (List AV)→Option (List UInt8)
 |[]=>some []
 |[.int .u8 n]::l=>match bytesA l with
  |some m=>if 0≤n∧n<256 then some (UInt8.ofNat n.toNat::m) else none
  |none=>none
 |_=>none
def slK:TK→Bool
 | .slice 1 _ _=>true
 |_=>false
def xBuiltin (Θ:Tab) (b:Builtin) (ts:Array TypeId) (as:List AV) (h:Heap):Res:=
 match b,as,(ts[0]?).bind Θ with
 | .cap,[x],some ti=>match ti.kind,x with
   | .slice _ _ _,.nils| .slice _ _ _,.emp| .slice _ _ _,.emn=>some (.P,.int .i64 0,[])
   |_,_=>none
 | .copy,[x,y],some ti=>if slK ti.kind then match lenS x,lenS y with
    |some n,some m=>if Nat.min m n=0 then some (.P,.int .i64 0,[]) else none
    |_,_=>none
   else none
 | .unsafeSliceData,[.ts b off len _ ty],_=>if 0<len then some (.P,.sd b off ty,[]) else none
 | .unsafeString,[.sd b i ty,.int k n],some ti=>match ti.kind,h b with
   | .ptr 1 e _,some (.cells es)=>if i=0∧k=.i64∧e=ty∧0<n∧n.toNat≤es.length∧n<140737488355328 then match bytesA (es.take n.toNat) with
      |some l=>some (.W,.str ⟨l.toArray⟩,[(b,none)])
      |none=>none
     else none
   |_,_=>none
 |_,_,_=>none
def xEntry (ti:TI) (h:Heap) (x k:AV):Res:=
 match ti.kind,x with
 | .map keq vz,.mp b=>match h b with
   |some (.map es)=>if keyOK keq k then match find keq k es with
    |some none=>some (.W,.tup [vz,.int .i64 es.length],[(b,some (.map (es++[(k,vz)])))])
    |_=>none
    else none
   |_=>none
 |_,_=>none
def xEntryStore (h:Heap) (x st v:AV):Res:=
 match x,st with
 | .mp b,.int .i64 i=>match h b with
   |some (.map es)=>if 0≤i then match es[i.toNat]? with
    |some e=>some (.W,.tup [],[(b,some (.map (es.set i.toNat (e.1,v))))])
    |none=>none
    else none
   |_=>none
 |_,_=>none
def xMake (ti:TI) (s:Nat) (x y:AV):Res:=
 match ti.kind,x,y with
 | .slice esz eb ez,.int .i64 n,.int .i64 c=>if 0≤n∧n≤c∧c*eb≤140737488355328∧0<eb∧0<esz∧ez.length=esz∧ez.all scal then
    some (.L,.sl s 0 n.toNat esz,[(s,some (.cells (List.replicate n.toNat ez)))]) else none
 |_,_,_=>none
def xConv (Θ:Tab) (src dst:Nat) (x:AV) (h:Heap) (n0:Nat):Res:=
 match (Θ src).map (·.kind),(Θ dst).map (·.kind),x with
 |some (TK.ptr esz _ _),some TK.upr,AV.tp b ty=>match h b with
  |some (.cells es)=>match es with
   |[e]=>if esz≠0∧0<e.length then some (rdCls n0 (.ptr b 0 0),.tp b ty,[]) else none
   |_=>none
  |_=>none
 |some TK.upr,some (TK.ptr esz e lies),AV.tp b ty=>match h b with
  |some (.cells es)=>match es with
   |[c]=>if lies∧e=ty∧c.length=esz then some (rdCls n0 (.ptr b 0 0),.tp b ty,[]) else none
   |_=>none
  |_=>none
 |_,_,_=>none
def aopX (Θ:Tab) (op:Op) (t:Fr) (h:Heap) (n0 s:Nat):Res:=
 match op with
 | .binOp op ty x y _=>match ev t x,ev t y with
   |some x1,some y1=>P1 (xBin Θ op ty x1 y1 y)
   |_,_=>none
 | .makeFunc fn first caps=>match fn with
   | .func f=>if caps.isEmpty then match evs t first.toList with
      |some cs=>P1 (some (.bm f cs))
      |none=>none
     else none
   |_=>none
 | .makeSlice ty x y=>match Θ ty,ev t x,ev t y with
   |some ti,some x,some y=>xMake ti s x y
   |_,_,_=>none
 | .typeAssert x _ asserted ok=>match ev t x,Θ asserted with
   |some .nili,some ti=>if ok then match ti.zv with
     |some z=>P1 (some (.tup [z,.bool false]))
     |none=>none
    else none
   |_,_=>none
 | .convert src dst x=>match ev t x with
   |some x=>xConv Θ src dst x h n0
   |none=>none
 | .mapEntry ty x k=>match Θ ty,ev t x,ev t k with
   |some ti,some x,some k=>xEntry ti h x k
   |_,_,_=>none
 | .entryStore _ x st v=>match ev t x,ev t st,ev t v with
   |some x,some st,some v=>xEntryStore h x st v
   |_,_,_=>none
 | .slice ty x lo hi mx=>match ev t x with
   |some (.ts b _ _ _ e)=>match aop0 Θ (.slice ty x lo hi mx) (plainF t) h n0 s with
    |some (c,.sl b2 off2 len2 sz2,u)=>if Nat.beq b2 b then some (c,.ts b2 off2 len2 sz2 e,u) else none
    |_=>none
   |_=>none
 | .call c=>match c.callee with
   | .builtin b=>match evs t c.args.toList with
     |some as=>xBuiltin Θ b c.argTypes as h
     |none=>none
   |_=>none
 |_=>none
def retype:AV→AV
 | .sl b off len sz=> .ts b off len sz gU
 |a=>a
def aopT (Θ:Tab) (op:Op) (t:Fr) (h:Heap) (n0 s:Nat):Res:=
 match op with
 | .alloc ty=>if ty=gB then match Θ ty with
    |some ti=>if ti.zero.all scal then some (.L,.tp s ty,[(s,some (.cells [ti.zero]))]) else none
    |none=>none
   else none
 | .load ty (.global g)=>match Θ ty,gl gT g with
   |some ti,some (.rp cells off)=>if off+ti.size≤cells.length then P1 (ofCells ti.agg ((cells.drop off).take ti.size)) else none
   |_,_=>none
 | .call c=>match c.callee with
   | .builtin .append=>match evs t c.args.toList,(c.argTypes[0]?).bind Θ,(c.argTypes[1]?).bind Θ with
     |some [x,y],some ti,some ti2=>if ti.elem=some gU∧srcT ti2 y then match x with
       | .nils| .ts _ 0 _ _ 5=>match aAppend ti h n0 s (plain x) y with
         |some (c,v,u)=>some (c,retype v,u)
         |none=>none
       |_=>none
      else none
     |_,_,_=>none
   |_=>none
 |_=>none
def aop (Θ:Tab) (op:Op) (t:Fr) (h:Heap) (n0 s:Nat):Res:=
 match aopT Θ op t h n0 s with
 |some r=>five r
 |none=>match aop0 Θ op t h n0 s with
  |some r=>five r
  |none=>match aopX Θ op t h n0 s with
   |some r=>five r
   |none=>match aop0 Θ op (plainF t) h n0 s with
    |some r=>five r
    |none=>none
section
variable {P:Program} {w:World} {S F:Nat→Prop} {m:Pm} {g:Heap} {Θ:Tab}
theorem VR.plain {a:AV} {v:Value} (h:VR w S m a v):VR w S m (plain a) v:=by
 cases h
 case tp=>show VR w S m (.ptr _ 0 0) _;simpa using VR.ptr (w:=w) (S:=S) _ 0 0 _ ‹m _=some _›
 case sd=>show VR w S m (.ptr _ _ 0) _;simpa using VR.ptr (w:=w) (S:=S) _ _ 0 _ ‹m _=some _›
 case ts=>exact .sl _ _ _ _ _ ‹m _=some _› ‹_› ‹_› ‹_› ‹_›
 all_goals first|exact .any _|exact .bool _|exact .int _ _|exact .str _|exact .nilp|exact .nilf|exact .nili|exact .nils|exact .nilm|exact .emp _|exact .emn _|exact .ifc _ _|exact .u8 _|exact .ron _ _|(constructor<;>assumption)
theorem EV.plain {t:Fr} {a:Act} {x:Operand} (h:EV w S m t a x):EV w S m (plainF t) a x:=by
 intro c hc
 cases x with
 |tmp i=>simp only[ev,Option.some.injEq] at hc;subst hc;exact(h _ rfl).plain
 |const v=>exact h c hc
 |func f=>exact h c hc
 |global k=>exact h c hc
theorem lEq_eq:∀(l m:List UInt8),lEq l m=(l==m)
 |[],[]=>rfl
 |[],_::_=>rfl
 |_::_,[]=>rfl
 |a::l,b::m=>by
  show(Nat.beq a.toNat b.toNat && lEq l m)=(a==b && l==m);rw[lEq_eq l m]
  congr 1
  rw[Bool.eq_iff_iff];simp only[Nat.beq_eq,beq_iff_eq];exact UInt8.toNat_inj
theorem toL_data (a:ByteArray):a.toList=a.data.toList:=ByteArray.toList_eq a
theorem bsEq_eq (a b:ByteArray):bsEq a b=(a.toList==b.toList):=by
 unfold bsEq;rw[lEq_eq,toL_data,toL_data]
theorem sCat_eq (a b:ByteArray):sCat a b=a++b:=by
 unfold sCat
 ext1
 simp[ByteArray.data_append]
theorem isNilP_ok {x:AV} {v:Value} {b:Bool} (h:isNilP x=some b) (hx:VR w S m x v):(b=true∧v=.pointer none)∨(b=false∧∃a,v=.pointer (some a)):=by
 cases hx<;>simp only[isNilP,Option.some.injEq,reduceCtorEq] at h<;>subst h
 ·exact .inl ⟨rfl,rfl⟩
 all_goals exact .inr ⟨rfl,_,rfl⟩
theorem isNilS_ok {x:AV} {v:Value} {b:Bool} (h:isNilS x=some b) (hx:VR w S m x v):(b=true∧∃n k,v=.slice none n k)∨(b=false∧∃a n k,v=.slice (some a) n k):=by
 cases hx
 case nils=>simp[isNilS] at h;subst h;exact .inl ⟨rfl,_,_,rfl⟩
 case emn=>simp[isNilS] at h;subst h;exact .inr ⟨rfl,_,_,_,rfl⟩
 case sl=>simp[isNilS] at h;subst h;exact .inr ⟨rfl,_,_,_,rfl⟩
 case ts=>simp[isNilS] at h;subst h;exact .inr ⟨rfl,_,_,_,rfl⟩
 case ro=>
  unfold isNilS at h;split at h
  ·rename_i he;cases he
  ·simp only[Option.some.injEq] at h;subst h;exact .inr ⟨rfl,_,_,_,rfl⟩
  ·simp only[Option.some.injEq] at h;subst h;exact .inr ⟨rfl,_,_,_,rfl⟩
  ·simp only[Option.some.injEq] at h;subst h;exact .inr ⟨rfl,_,_,_,rfl⟩
  ·simp only[Option.some.injEq] at h;subst h;exact .inr ⟨rfl,_,_,_,rfl⟩
  ·cases h
 all_goals simp[isNilS] at h
def EqV (xv yv:Value):Prop:=(∃a b,xv=Value.pointer a∧yv=Value.pointer b)∨(∃a b c i j k,xv=Value.slice a b c∧yv=Value.slice i j k)∨(xv=Value.nilIface∨∃t u,xv=Value.iface t u)∧(yv=Value.nilIface∨∃t u,yv=Value.iface t u)
theorem isNilI_ok {x:AV} {v:Value} {b:Bool} (h:isNilI x=some b) (hx:VR w S m x v):(b=true∧v=.nilIface)∨(b=false∧∃t u,v=.iface t u):=by
 cases hx<;>simp only[isNilI,Option.some.injEq,reduceCtorEq] at h<;>subst h
 ·exact .inl ⟨rfl,rfl⟩
 ·exact .inr ⟨rfl,_,_,rfl⟩
theorem ptrB_ok {x y:AV} {v u:Value} {p:Nat×Nat×Nat} (h:ptrB x=some p) (k:ptrB y=some p) (hx:VR w S m x v) (hy:VR w S m y u):∃a,v=.pointer (some a)∧u=.pointer (some a):=by
 have key:∀{x:AV} {v:Value},ptrB x=some p→VR w S m x v→∃q,m p.1=some q∧v=.pointer (some ⟨q.blk,q.off+p.2.1*q.sz+p.2.2,none⟩):=by
  intro x v h hx;cases hx<;>simp only[ptrB,Option.some.injEq,reduceCtorEq] at h<;>subst h
  ·exact⟨_,‹_›,rfl⟩
  ·exact⟨_,‹m _=some _›,by simp⟩
 obtain⟨q,h1,h2⟩:=key h hx;obtain⟨q',k1,k2⟩:=key k hy;rw[h1] at k1;cases k1;exact⟨_,h2,k2⟩
theorem nilEq_inv {a b:Option Bool} {r:Bool} (h:nilEq a b=some r):∃x y,a=some x∧b=some y∧r=(x && y)∧(x=true∨y=true):=by
 unfold nilEq at h;split at h
 ·rename_i b;simp only[Option.some.injEq] at h;subst h;exact⟨true,b,rfl,rfl,by simp,.inl rfl⟩
 ·simp only[Option.some.injEq] at h;subst h;exact⟨false,true,rfl,rfl,by simp,.inr rfl⟩
 ·cases h
theorem equal_gen {ty:TypeId} {x y:Value} {r:Bool} (key:∀n,(Op.equalIn (n+1) ty x y).run P w=.ok r w):(Op.equal ty x y).run P w=.ok r w:=key 9999
theorem xEq_ok (hT:TabOK P Θ) {op:BinOp} {ty:TypeId} {ox oy:Operand} {x y:AV} {r:Bool} {xv yv:Value} (ho:op=.eql∨op=.neq) (h:xEq Θ ty x y oy=some r) (hx:VR w S m x xv) (hy:VR w S m y yv):
  (eqGuard op ty ox oy xv yv).run P w=.ok () w∧(Op.equal ty xv yv).run P w=.ok r w∧EqV xv yv:=by
 unfold xEq at h;split at h
 ·rename_i esz e lies hk
  obtain⟨ti,hti,hk⟩:=Option.map_eq_some_iff.1 hk;obtain⟨d,hu,_,hkind⟩:=(hT ty ti hti).und;rw[hk] at hkind;obtain⟨i,rfl,hi,hsz,_⟩:=hkind;unfold eqP at h;split at h
  ·rename_i b hb
   simp only[Option.some.injEq] at h;subst h;obtain⟨p,q,h1,h2,rfl,hor⟩:=nilEq_inv hb;rcases isNilP_ok h1 hx with ⟨rfl,rfl⟩|⟨rfl,a,rfl⟩<;>rcases isNilP_ok h2 hy with ⟨rfl,rfl⟩|⟨rfl,c,rfl⟩
   ·refine⟨by simp[eqGuard], ?_,.inl ⟨_,_,rfl,rfl⟩⟩;refine equal_gen fun n=>?_
    simp only[Op.equalIn,Sem.run_bind,run_underlying hu,Result.andThen_ok];rfl
   ·refine⟨by simp[eqGuard], ?_,.inl ⟨_,_,rfl,rfl⟩⟩;refine equal_gen fun n=>?_
    simp only[Op.equalIn,Sem.run_bind,run_underlying hu,Result.andThen_ok];rfl
   ·refine⟨by simp[eqGuard], ?_,.inl ⟨_,_,rfl,rfl⟩⟩;refine equal_gen fun n=>?_
    simp only[Op.equalIn,Sem.run_bind,run_underlying hu,Result.andThen_ok];rfl
   ·simp at hor
  ·split at h
   ·cases h
   ·rename_i hz
    split at h
    ·rename_i p q hp hq
     split at h
     ·rename_i hpq
      subst hpq;simp only[Option.some.injEq] at h;subst h;obtain⟨a,rfl,rfl⟩:=ptrB_ok hp hq hx hy;refine⟨by simp[eqGuard], ?_,.inl ⟨_,_,rfl,rfl⟩⟩;refine equal_gen fun n=>?_
      have hne:i.size≠0:=by rw[hsz];exact hz
      simp only[Op.equalIn,Sem.run_bind,run_underlying hu,Result.andThen_ok];simp[sizeOf,typeInfo,hi,hne,sameAddr]
     ·cases h
    ·cases h
 ·rename_i k1 k2 k3 hk
  obtain⟨ti,hti,hk⟩:=Option.map_eq_some_iff.1 hk;obtain⟨d,hu,_,hkind⟩:=(hT ty ti hti).und;rw[hk] at hkind;obtain⟨e,_,_,rfl,_⟩:=hkind;obtain⟨p,q,h1,h2,rfl,hor⟩:=nilEq_inv h;rcases isNilS_ok h1 hx with ⟨rfl,n1,c1,rfl⟩|⟨rfl,a,n1,c1,rfl⟩<;>rcases isNilS_ok h2 hy with ⟨rfl,n2,c2,rfl⟩|⟨rfl,c,n2,c2,rfl⟩
  ·refine⟨by simp[eqGuard], ?_,.inr (.inl ⟨_,_,_,_,_,_,rfl,rfl⟩)⟩;refine equal_gen fun n=>?_
   simp only[Op.equalIn,Sem.run_bind,run_underlying hu,Result.andThen_ok];rfl
  ·refine⟨by simp[eqGuard], ?_,.inr (.inl ⟨_,_,_,_,_,_,rfl,rfl⟩)⟩;refine equal_gen fun n=>?_
   simp only[Op.equalIn,Sem.run_bind,run_underlying hu,Result.andThen_ok];rfl
  ·refine⟨by simp[eqGuard], ?_,.inr (.inl ⟨_,_,_,_,_,_,rfl,rfl⟩)⟩;refine equal_gen fun n=>?_
   simp only[Op.equalIn,Sem.run_bind,run_underlying hu,Result.andThen_ok];rfl
  ·simp at hor
 ·rename_i hk
  obtain⟨ti,hti,hk⟩:=Option.map_eq_some_iff.1 hk;obtain⟨d,hu,_,hkind⟩:=(hT ty ti hti).und;rw[hk] at hkind;obtain⟨ms,rfl⟩:=hkind;split at h
  ·rename_i hc
   obtain⟨p,q,h1,h2,rfl,hor⟩:=nilEq_inv h;rcases isNilI_ok h1 hx with ⟨rfl,rfl⟩|⟨rfl,t1,u1,rfl⟩<;>rcases isNilI_ok h2 hy with ⟨rfl,rfl⟩|⟨rfl,t2,u2,rfl⟩
   ·refine⟨?_, ?_,.inr (.inr ⟨.inl rfl,.inl rfl⟩)⟩
    ·have hcc:isConst oy=true:=by
      rw[h2] at hc;simpa using hc
     unfold isConst at hcc;split at hcc
     ·rcases ho with rfl|rfl<;>simp[eqGuard]
     ·cases hcc
    ·refine equal_gen fun n=>?_
     simp only[Op.equalIn,Sem.run_bind,run_underlying hu,Result.andThen_ok];rfl
   ·refine⟨by simp[eqGuard], ?_,.inr (.inr ⟨.inl rfl,.inr ⟨_,_,rfl⟩⟩)⟩;refine equal_gen fun n=>?_
    simp only[Op.equalIn,Sem.run_bind,run_underlying hu,Result.andThen_ok];rfl
   ·refine⟨by simp[eqGuard], ?_,.inr (.inr ⟨.inr ⟨_,_,rfl⟩,.inl rfl⟩)⟩;refine equal_gen fun n=>?_
    simp only[Op.equalIn,Sem.run_bind,run_underlying hu,Result.andThen_ok];rfl
   ·simp at hor
  ·cases h
 ·cases h
theorem binOp_eq {ty:TypeId} {xv yv:Value} {r:Bool} (he:(Op.equal ty xv yv).run P w=.ok r w)
  (hd:EqV xv yv):
  (binOp .eql ty xv yv).run P w=.ok (.bool r) w∧(binOp .neq ty xv yv).run P w=.ok (.bool !r) w:=by
 rcases hd with h|h|h
 ·obtain⟨a,b,rfl,rfl⟩:=h;constructor<;>simp[binOp,Sem.run_bind,he]
 ·obtain⟨a,b,c,i,j,k,rfl,rfl⟩:=h;constructor<;>simp[binOp,Sem.run_bind,he]
 ·obtain⟨rfl|⟨t,u,rfl⟩,rfl|⟨t',u',rfl⟩⟩:=h<;>(constructor<;>simp[binOp,Sem.run_bind,he])
theorem xBin_ok (hT:TabOK P Θ) {op:BinOp} {ty:TypeId} {ox oy:Operand} {x y v:AV} {xv yv:Value} (h:xBin Θ op ty x y oy=some v) (hx:VR w S m x xv) (hy:VR w S m y yv):
  ∃v',(do eqGuard op ty ox oy xv yv;binOp op ty xv yv:Sem Value).run P w=.ok v' w∧VR w S m v v':=by
 unfold xBin at h;split at h
 ·rename_i a b
  split at h
  ·rename_i hsz
   simp only[Option.some.injEq] at h;subst h;cases hx;cases hy;refine⟨.string (a++b), ?_,by rw[sCat_eq];exact .str _⟩;have hm:IntKind.i64.max=9223372036854775807:=rfl;have hi:¬(9223372036854775807:Int)<((a.size:Int)+(b.size:Int)):=by omega
   simp[eqGuard,binOp,Op.stringOp,hm,hi]
  ·cases h
 ·simp only[Option.some.injEq] at h;subst h;cases hx;cases hy;refine⟨_, ?_,.bool _⟩;simp[eqGuard,binOp,Op.stringOp,bsEq_eq]
 ·simp only[Option.some.injEq] at h;subst h;cases hx;cases hy;refine⟨_, ?_,.bool _⟩;simp[eqGuard,binOp,Op.stringOp,bsEq_eq]
 ·obtain⟨r,hr,rfl⟩:=Option.map_eq_some_iff.1 h;obtain⟨h1,h2,h4⟩:=xEq_ok (ox:=ox) hT (.inl rfl) hr hx hy;exact⟨.bool r,by rw[Sem.run_bind,h1,Result.andThen_ok];exact(binOp_eq h2 h4).1,.bool _⟩
 ·obtain⟨r,hr,rfl⟩:=Option.map_eq_some_iff.1 h;obtain⟨h1,h2,h4⟩:=xEq_ok (ox:=ox) hT (.inr rfl) hr hx hy;exact⟨.bool !r,by rw[Sem.run_bind,h1,Result.andThen_ok];exact(binOp_eq h2 h4).2,.bool _⟩
 ·cases h
theorem bytesA_ok:∀{es:List (List AV)} {l:List UInt8},bytesA es=some l→l.length=es.length∧∀(j:Nat) (x:UInt8),l[j]?=some x→es[j]?=some [.int .u8 x.toNat]
 |[],l,h=>by simp only[bytesA,Option.some.injEq] at h;subst h;exact⟨rfl,fun j x hj=>by simp at hj⟩
 |e::es,l,h=>by
  unfold bytesA at h;split at h
  ·rename_i he;cases he
  ·rename_i n l' he
   cases he;split at h
   ·rename_i m hm
    split at h
    ·rename_i hn
     simp only[Option.some.injEq] at h;subst h;obtain⟨h1,h2⟩:=bytesA_ok hm;refine⟨by simp[h1],fun j x hj=>?_⟩
     cases j with
     |zero=>
      simp only[List.getElem?_cons_zero,Option.some.injEq] at hj;subst hj
      have e:((UInt8.ofNat n.toNat).toNat:Int)=n:=by
       have:n.toNat<256:=by omega
       simp[UInt8.toNat_ofNat',Nat.mod_eq_of_lt this];omega
      show some [AV.int .u8 n]=some [AV.int .u8 _];rw[e]
     |succ j=>simpa using h2 j x (by simpa using hj)
    ·cases h
   ·cases h
  ·cases h
theorem lenS_ok {x:AV} {v:Value} {n:Nat} (h:lenS x=some n) (hx:VR w S m x v):∃a k,v=.slice a n k:=by
 cases hx<;>simp only[lenS,Option.some.injEq,reduceCtorEq] at h<;>subst h<;>exact⟨_,_,rfl⟩
theorem Rel.lost (h:Rel w S F m g) {b:Nat} {o:AO} {p:Pl} (hg:g b=some o) (hm:m b=some p) {w':World} (he:Ext (fun k=>k≠p.blk) w w'):Rel w' S F m (upd g b none):=by
 have ha:=h.apart b o p hg hm;have hS:Ext S w w':=he.mono fun k hk e=>ha.1 (e▸hk)
 have old:∀c o,upd g b none c=some o→g c=some o∧c≠b:=fun c o hc=>by
  by_cases e:c=b
  ·subst e;rw[upd_same] at hc;cases hc
  ·rw[upd_ne e] at hc;exact⟨hc,e⟩
 exact⟨fun c o₁ q hc hq=>by
   obtain⟨k1,k2⟩:=old c o₁ hc
   exact(h.content c o₁ q k1 hq).mono hS (fun _ h=>h) (fun _ _ h=>h) (he.same _ (h.disj _ _ _ _ _ _ k1 hg hq hm k2)),
  fun c d o₁ o₂ p₁ p₂ g₁ g₂=>h.disj c d o₁ o₂ p₁ p₂ (old _ _ g₁).1 (old _ _ g₂).1,fun c o p hg hm=>h.apart c o p (old _ _ hg).1 hm,
  fun k hk=>Nat.lt_of_lt_of_le (h.inS k hk) he.size,fun k hk=>Nat.lt_of_lt_of_le (h.inF k hk) he.size,fun c q hq=>Nat.lt_of_lt_of_le (h.inm c q hq) he.size,
  fun k a ha=>(h.glob k a ha).mono hS (fun _ h=>h) (fun _ _ h=>h)⟩
theorem ext_freeze (w:World) (b o n:Nat):Ext (fun k=>k≠b) w (w.freeze ⟨b,o,none⟩ n):=by
 unfold World.freeze;split
 ·exact Ext.refl _ _
 ·refine⟨rfl,rfl,rfl,by simp,fun k hk=>?_⟩;simp[Array.getElem?_modify,Ne.symm hk]
theorem xMake_ok {t:TypeId} {ti:TI} (hT:TyOK P t ti) {s:Nat} {x y v:AV} {c:Cls} {u:Upd} {xv yv:Value} (h:xMake ti s x y=some (c,v,u))
  (hx:VR w S m x xv) (hy:VR w S m y yv) (hs:m s=none) (hr:Rel w S F m g):
  ∃v' w' p,(Instr.makeSlice t xv yv).run P w=.ok v' w'∧Ext (fun k=>S k∨F k) w w'∧VR w' S (setm m s p) v v'∧Rel w' S F (setm m s p) (upds g u):=by
 unfold xMake at h;split at h
 ·rename_i esz eb ez n n2 hk
  split at h
  ·rename_i hc
   obtain⟨h0,hle,hb,hb0,hsz0,hzl,hsc⟩:=hc;simp only[Option.some.injEq,Prod.mk.injEq] at h;obtain⟨_,hv,hu⟩:=h;subst hv hu;obtain⟨d,hund,_,hkind⟩:=hT.und;rw[hk] at hkind;obtain⟨e,i,z,hd,hi,hisz,hib,hiz,hzc⟩:=hkind;subst hd;cases hx;cases hy;have h02:0≤n2:=by omega
   have hbe:(i.bytes:Int)*n2≤281474976710656:=by
    rw[hib,Int.mul_comm];omega
   have hn63:n2≤9223372036854775807:=by
    have h1:n2≤n2*(eb:Int):=by
     have:n2*1≤n2*(eb:Int):=Int.mul_le_mul_of_nonneg_left (by omega) h02;simpa using this
    omega
   have hrun:=run_make (P:=P) w t e i z hund hi hiz .i64 .i64 n n2 h0 hle hbe hn63;rw[hisz] at hrun;have hle':n.toNat≤n2.toNat:=by omega
   have hborn:=hr.born hs (es:=List.replicate n.toNat ez) (arr:=madeCells z.cells (n2.toNat*esz)) (e:=e) (sz:=esz) (room:=n2.toNat) (by simpa using hle') (by simp[size_madeCells])
    (by
      have:=(ER.made (w:=w) (S:=S) (m:=m) hzc hzl hsc n2.toNat).take n.toNat
      simpa[List.take_replicate,Nat.min_eq_left hle'] using this)
   refine⟨_,_,_,hrun,(ext_alloc w _).old hr, ?_,hborn⟩;have:=VR.sl (w:=w.alloc (.cells (madeCells z.cells (n2.toNat*esz)) e)) (S:=S) s 0 n.toNat n2.toNat ⟨w.heap.size,0,esz,(List.replicate n.toNat ez).length,n2.toNat,some (e,decide (n2.toNat=1))⟩ (setm_same (m:=m)) (by simpa using hle') (by simp) hle' (by simp);simpa using this
  ·cases h
 ·cases h
theorem xBuiltin_ok (hT:TabOK P Θ) {b:Builtin} {ts:Array TypeId} {as:List AV} {vs:List Value} {ty:TypeId} {hc:Heap} {c:Cls} {v:AV} {u:Upd} (h:xBuiltin Θ b ts as hc=some (c,v,u)) (hL:LR w S m as vs)
  (hg:∀b o p,c≠.P→(c=.L→False)→m b=some p→hc b=some o→g b=some o) (hr:Rel w S F m g) (cs:Array Bool):
  ∃v' w',(builtin b ts ty cs ⟨vs⟩).run P w=.ok (.value v') w'∧Ext (fun k=>S k∨F k) w w'∧VR w' S m v v'∧Rel w' S F m (upds g u)∧∀y∈u,∃p,m y.1=some p:=by
 unfold xBuiltin at h;split at h
 · -- cap
   rename_i x ti hti
   cases hts:ts[0]? with
   |none=>simp[hts] at hti
   |some t0=>
   simp only[hts,Option.bind_some] at hti
   match vs,hL with
   |[xv],hL=>
   have hx:=hL.2 0 _ _ rfl rfl
   have done:(∃k1 k2 k3,ti.kind=.slice k1 k2 k3)→(∃a,xv=.slice a 0 0)→some (Cls.P,AV.int .i64 0,([]:Upd))=some (c,v,u)→
    ∃v' w',(builtin .cap ts ty cs ⟨[xv]⟩).run P w=.ok (.value v') w'∧Ext (fun k=>S k∨F k) w w'∧VR w' S m v v'∧Rel w' S F m (upds g u)∧∀y∈u,∃p,m y.1=some p:=by
    intro ⟨k1,k2,k3,hk⟩ ⟨a,ha⟩ h;simp only[Option.some.injEq,Prod.mk.injEq] at h;obtain⟨_,rfl,rfl⟩:=h;subst ha;obtain⟨d,hund,_,hkind⟩:=(hT t0 ti hti).und;rw[hk] at hkind;obtain⟨e,_,_,rfl,_⟩:=hkind;refine⟨.int .i64 0,w, ?_,Ext.refl _ _,.int _ _,hr,fun y hy=>by cases hy⟩;simp[builtin,Builtin.cap_,hts,run_underlying hund,goInt]
   split at h
   ·cases hx;exact done ⟨_,_,_,‹ti.kind=_›⟩ ⟨_,rfl⟩ h
   ·cases hx;exact done ⟨_,_,_,‹ti.kind=_›⟩ ⟨_,rfl⟩ h
   ·cases hx;exact done ⟨_,_,_,‹ti.kind=_›⟩ ⟨_,rfl⟩ h
   ·cases h
 · -- copy
   rename_i x y ti hti
   cases hts:ts[0]? with
   |none=>simp[hts] at hti
   |some t0=>
   simp only[hts,Option.bind_some] at hti
   match vs,hL with
   |[xv,yv],hL=>
   have hx:=hL.2 0 _ _ rfl rfl;have hy:=hL.2 1 _ _ rfl rfl;split at h
   ·rename_i hsl
    split at h
    ·rename_i n k hn hk
     split at h
     ·rename_i hmin
      simp only[Option.some.injEq,Prod.mk.injEq] at h;obtain⟨_,rfl,rfl⟩:=h;obtain⟨d,hund,_,hkind⟩:=(hT t0 ti hti).und;unfold slK at hsl;split at hsl
      ·rename_i hkk
       rw[hkk] at hkind;obtain⟨e,inf,_,rfl,hinf,hsz,_⟩:=hkind;obtain⟨a1,k1,rfl⟩:=lenS_ok hn hx;obtain⟨a2,k2,rfl⟩:=lenS_ok hk hy;refine⟨.int .i64 0,w, ?_,Ext.refl _ _,.int _ _,hr,fun y hy=>by cases hy⟩
       have hcopy:∀tt:Array TypeId,tt[0]?=some t0→(Builtin.copy_ tt ty #[.slice a1 n k1,.slice a2 k k2]).run P w=(Builtin.copy_ #[t0,t0] ty #[.slice a1 n k1,.slice a2 k k2]).run P w:=fun tt hh=>by
        simp only[Builtin.copy_,hh];rfl
       have:=run_copy_none (P:=P) w t0 t0 ty e a1 a2 n k1 k k2 hund (by rw[hinf];simp[hsz]) hmin;simp only[builtin,Sem.run_bind];show((Builtin.copy_ ts ty #[.slice a1 n k1,.slice a2 k k2]).run P w).andThen _=_;rw[hcopy ts hts,this];rfl
      ·cases hsl
     ·cases h
    ·cases h
   ·cases h
 · -- SliceData
   rename_i b' off len sz ty'
   match vs,hL with
   |[xv],hL=>
   have hx:=hL.2 0 _ _ rfl rfl;split at h
   ·rename_i hlen
    simp only[Option.some.injEq,Prod.mk.injEq] at h;obtain⟨_,rfl,rfl⟩:=h;generalize hav:AV.ts b' off len sz ty'=av at hx;cases hx<;>simp only[reduceCtorEq,AV.ts.injEq] at hav
    case ts b2 off2 len2 cap p ty2 o q1 q2 q3 q4 ht hm=>
    obtain⟨rfl,rfl,rfl,rfl,rfl⟩:=hav;refine⟨_,w, ?_,Ext.refl _ _,.sd b' off p ty' o hm ht,hr,fun y hy=>by cases hy⟩;have:=Lib.run_unsafeSliceData_row (P:=P) w ts ty ⟨p.blk,p.off+off*p.sz,none⟩ len cap (by omega);simp only[builtin,Sem.run_bind];rw[this];rfl
   ·cases h
 · -- String
   rename_i b' i ty' k n ti hti
   cases hts:ts[0]? with
   |none=>simp[hts] at hti
   |some t0=>
   simp only[hts,Option.bind_some] at hti
   match vs,hL with
   |[xv,yv],hL=>
   have hx:=hL.2 0 _ _ rfl rfl;have hy:=hL.2 1 _ _ rfl rfl;split at h
   ·rename_i e lies es hk hes
    split at h
    ·rename_i hcond
     obtain⟨rfl,rfl,rfl,hn0,hnl,hnb⟩:=hcond;split at h
     ·rename_i l hl
      simp only[Option.some.injEq,Prod.mk.injEq] at h;obtain⟨rfl,rfl,rfl⟩:=h;generalize hav:AV.sd b' 0 e=av at hx;cases hx<;>simp only[reduceCtorEq,AV.sd.injEq] at hav
      case sd b2 i2 p ty2 o hm ht=>
      obtain⟨rfl,rfl,rfl⟩:=hav;generalize hav:AV.int .i64 n=av at hy;cases hy<;>simp only[reduceCtorEq,AV.int.injEq] at hav
      obtain⟨rfl,rfl⟩:=hav;obtain⟨d,hund,_,hkind⟩:=(hT t0 ti hti).und;rw[hk] at hkind;obtain⟨inf,rfl,hinf,hsz,_⟩:=hkind;have hgb:=hg b' _ p (by simp) (by simp) ‹_› hes;have hCR:=hr.content b' _ p hgb ‹_›;obtain⟨arr,e',c1,c2,c3,c4,c5,c6⟩:=hCR.erT;obtain⟨rfl,hoff,_⟩:=c6 e o ‹_›;obtain⟨l1,l2⟩:=bytesA_ok hl;have hll:l.length=n.toNat:=by rw[l1,List.length_take];omega
      have hcells:P.cellsOf e'=1:=by simp[Program.cellsOf,hinf,hsz]
      have hsh:w.shape? p.blk=some (e',arr.size):=by simp[World.shape?,c1]
      have hp1:p.sz=1:=by
       have h0:0<es.length:=by omega
       have:=(c5.each 0 es[0] (by simp[h0])).1;have hx0:0<l.length:=by omega
       have h3:=l2 0 l[0] (by simp[hx0]);rw[List.getElem?_take,if_pos (by omega)] at h3;have h4:es[0]?=some es[0]:=by simp[h0]
       rw[h4] at h3;simp only[Option.some.injEq] at h3;rw[h3] at this;simpa using this.symm
      have hcell:∀j x,l[j]?=some x→w.cell? ((⟨p.blk,0,none⟩:Addr).add j)=some (.int .u8 x.toNat):=by
       intro j x hj;have hjl:j<l.length:=(List.getElem?_eq_some_iff.1 hj).1;have h3:=l2 j x hj;rw[List.getElem?_take,if_pos (by omega)] at h3;obtain⟨arr2,e2,d1,_,_,_,_,d5,_⟩:=hCR;rw[c1] at d1;cases d1;obtain⟨u,hu,hvr⟩:=d5 j 0 (.int .u8 x.toNat) (by simp[getc,h3]);rw[Addr.add_n,cell?_cells c1];rw[hoff,hp1] at hu;cases hvr;simpa using hu
      have hrun:=Lib.run_unsafeString_row (P:=P) w t0 t0 ty e' hund hcells p.blk arr.size hsh l (by intro h0;rw[h0] at hll;simp at hll;omega) (by
       have h1:p.room*p.sz≤arr.size:=by omega
       rw[hp1,Nat.mul_one] at h1;omega) (by omega) hcell
      have hsize:n=((l.length:Nat):Int):=by rw[hll];omega
      refine⟨_,w.freeze ⟨p.blk,0,none⟩ l.length, ?_, ?_,.str _, ?_,fun y hy=>?_⟩
      ·have hst:∀tt:Array TypeId,tt[0]?=some t0→(Builtin.unsafeString_ tt ty #[.pointer (some ⟨p.blk,0,none⟩),.int .i64 l.length]).run P w=(Builtin.unsafeString_ #[t0,t0] ty #[.pointer (some ⟨p.blk,0,none⟩),.int .i64 l.length]).run P w:=fun tt hh=>by
        have h1:Builtin.unsafeString_ tt ty #[.pointer (some ⟨p.blk,0,none⟩),.int .i64 l.length]=(do
         let n ←asInt (.int .i64 l.length)
         let some pt:=tt[0]? |stuck "unsafe.String: no argument types"
         if n<0 then runtimePanic (.error "unsafe.String: len out of range")
         if n>IntKind.i64.max then unsupported (.unsafePointer "String: a length above the largest int")
         if n=0 then pure (.string .empty)
         else if ←variablesAt ⟨p.blk,0,none⟩ (←elemOf pt) n.toNat then do
          let s ←loadBytes ⟨p.blk,0,none⟩ .empty n.toNat
          freeze ⟨p.blk,0,none⟩ n.toNat
          pure (.string s)
         else unsupported (.unsafePointer "String: not so many bytes at ptr")):=rfl
        rw[h1,hh];rfl
       simp only[builtin,Sem.run_bind];show((Builtin.unsafeString_ ts ty #[.pointer (some ⟨p.blk,p.off+0*p.sz,none⟩),.int .i64 n]).run P w).andThen _=_;rw[hoff,Nat.zero_mul,Nat.add_zero,hsize,hst ts hts,hrun];rfl
      ·exact(ext_freeze w p.blk 0 l.length).mono fun k hk e=>by subst e;exact hk.elim (hr.apart b' _ p hgb ‹_›).1 (hr.apart b' _ p hgb ‹_›).2
      ·exact hr.lost hgb ‹_› (ext_freeze w p.blk 0 l.length)
      ·simp only[List.mem_singleton] at hy;subst hy;exact⟨p,‹_›⟩
     ·cases h
    ·cases h
   ·cases h
 ·cases h
theorem xEntry_ok {t:TypeId} {ti:TI} (hT:TyOK P t ti) {hc:Heap} {x k v:AV} {c:Cls} {u:Upd} {xv kv:Value} (h:xEntry ti hc x k=some (c,v,u)) (hx:VR w S m x xv) (hk:VR w S m k kv)
  (hg:∀b o p,m b=some p→hc b=some o→g b=some o) (hr:Rel w S F m g):∃v' w',(Instr.mapEntry t xv kv).run P w=.ok v' w'∧Ext (fun k=>S k∨F k) w w'∧VR w' S m v v'∧Rel w' S F m (upds g u)∧∀y∈u,∃p,m y.1=some p:=by
 unfold xEntry at h;split at h
 ·rename_i keq vz b hkind
  obtain⟨d,hund,_,hK⟩:=hT.und;rw[hkind] at hK;obtain⟨kt,et,i,z,rfl,hi,hz,hvz,hck,heq,fs,hfs⟩:=hK;split at h
  ·rename_i es hh
   split at h
   ·rename_i hkey
    split at h
    ·rename_i hf
     simp only[Option.some.injEq,Prod.mk.injEq] at h;obtain⟨_,rfl,rfl⟩:=h
     cases hx with
     |mp _ p hp=>
     have hgb:=hg b _ p hp hh;obtain⟨en,clock,e1,e2,e3,e4,e5⟩:=hr.content b _ p hgb hp;have hap:=hr.apart b _ p hgb hp;have hM:=MR.of (w:=w) (S:=S) (m:=m) (es:=es) (en:=en.toList) (by simpa using e2) fun i k x e h1 h2=>e3 i k x e h1 (by simpa using h2)
     obtain⟨_,hfa⟩|⟨_,_,_,hcc,_⟩:=find_ok (P:=P) (fun y b r hb hc=>heq kv y w S m k b r hk hb hc) es en.toList 0 none hM hf
     ·have hlt:p.blk<w.heap.size:=(Array.getElem?_eq_some_iff.1 e1).1
      have hE:Ext (fun k=>k≠p.blk) w { w with heap:=w.heap.setIfInBounds p.blk (.map (en.push { key:=kv,val:=z,born:=clock }) (clock+1)) }:=
       ⟨rfl,rfl,rfl,by simp,fun k hk=>by simp[Ne.symm hk]⟩
      have hES:Ext S w { w with heap:=w.heap.setIfInBounds p.blk (.map (en.push { key:=kv,val:=z,born:=clock }) (clock+1)) }:=hE.mono fun k hk e=>hap.1 (e▸hk)
      have hcl:(clock:Int)=es.length:=by rw[e4,e2]
      refine⟨.tuple #[z,goInt clock],_, ?_,hE.mono fun k hk e=>?_, ?_,hr.write hgb hp hE ?_,fun y hy=>?_⟩
      ·have hget:(getObj p.blk).run P w=.ok (.map en clock) w:=by simp[getObj,Sem.run,e1]
       have hset:∀o,(setObj p.blk o).run P w=.ok () { w with heap:=w.heap.setIfInBounds p.blk o }:=fun o=>by simp[setObj,Sem.run,e1]
       have hzero:(zeroValue et).run P w=.ok z w:=by simp[zeroValue,typeInfo,hi,hz]
       unfold Instr.mapEntry;simp only[Sem.run_bind,run_underlying hund,Result.andThen_ok,Sem.run_pure,hget,hck kv w S m k hk hkey false,find_key hfs,hfa,hset,hzero]
      ·subst e;exact hk.elim hap.1 hap.2
      ·exact .tup _ _ rfl fun i c v h1 h2=>by
        match i with
        |0=>simp at h1 h2;subst h1 h2;exact hvz _ S m
        |1=>simp[goInt] at h1 h2;subst h1 h2;rw[hcl];exact .int _ _
        |n+2=>simp at h1
      ·refine⟨en.push { key:=kv,val:=z,born:=clock },clock+1,by simp[hlt],by simp[e2],fun i k' x' e h1 h2=>?_,by simp[e4],fun i e he=>?_⟩
       rotate_left
       ·rw[Array.getElem?_push] at he;split at he
        ·rename_i hi;simp only[Option.some.injEq] at he;subst he;rw[hi];exact e4
        ·exact e5 i e he
       by_cases hi:i<es.length
       ·rw[List.getElem?_append_left hi] at h1
        have h2':en[i]?=some e:=by
         rw[Array.getElem?_push] at h2;split at h2
         ·omega
         ·exact h2
        obtain⟨a,b⟩:=e3 i k' x' e h1 h2';exact⟨a.mono hES (fun _ h=>h) fun _ _ h=>h,b.mono hES (fun _ h=>h) fun _ _ h=>h⟩
       ·have hie:i=es.length:=by
         have:=(List.getElem?_eq_some_iff.1 h1).1;simp at this;omega
        subst hie;rw[List.getElem?_append_right (Nat.le_refl _)] at h1;simp only[Nat.sub_self,List.getElem?_cons_zero,Option.some.injEq,Prod.mk.injEq] at h1;obtain⟨rfl,rfl⟩:=h1;rw[Array.getElem?_push,if_pos e2.symm] at h2;simp only[Option.some.injEq] at h2;subst h2;exact⟨hk.mono hES (fun _ h=>h) fun _ _ h=>h,hvz _ S m⟩
      ·simp only[List.mem_singleton] at hy;subst hy;exact⟨p,hp⟩
     ·cases hcc
    ·cases h
   ·cases h
  ·cases h
 ·cases h
theorem xEntryStore_ok {t:TypeId} {hc:Heap} {x st y v:AV} {c:Cls} {u:Upd} {xv sv yv:Value} (h:xEntryStore hc x st y=some (c,v,u)) (hx:VR w S m x xv) (hs:VR w S m st sv) (hy:VR w S m y yv)
  (hg:∀b o p,m b=some p→hc b=some o→g b=some o) (hr:Rel w S F m g):v=.tup []∧∃w',(Instr.entryStore t xv sv yv).run P w=.ok () w'∧Ext (fun k=>S k∨F k) w w'∧Rel w' S F m (upds g u)∧∀y∈u,∃p,m y.1=some p:=by
 unfold xEntryStore at h;split at h
 ·rename_i b i
  split at h
  ·rename_i es hh
   split at h
   ·rename_i h0
    split at h
    ·rename_i e he
     simp only[Option.some.injEq,Prod.mk.injEq] at h;obtain⟨_,rfl,rfl⟩:=h;cases hs
     cases hx with
     |mp _ p hp=>
     have hgb:=hg b _ p hp hh;obtain⟨en,clock,e1,e2,e3,e4,e5⟩:=hr.content b _ p hgb hp;have hap:=hr.apart b _ p hgb hp;have hlt:p.blk<w.heap.size:=(Array.getElem?_eq_some_iff.1 e1).1;have hil:i.toNat<en.size:=by rw[e2];exact(List.getElem?_eq_some_iff.1 he).1
     have hfind:en.findIdx? (fun e=>(e.born:Int)==i)=some i.toNat:=by
      rw[Array.findIdx?_eq_some_iff_getElem];refine⟨hil, ?_,fun j hj=>?_⟩
      ·have:=e5 i.toNat en[i.toNat] (by simp[hil]);simp[this];omega
      ·have hjl:j<en.size:=by omega
       have:=e5 j en[j] (by simp[hjl]);simp[this];omega
     have hE:Ext (fun k=>k≠p.blk) w { w with heap:=w.heap.setIfInBounds p.blk (.map (en.modify i.toNat fun e=>{ e with val:=yv }) clock) }:=
      ⟨rfl,rfl,rfl,by simp,fun k hk=>by simp[Ne.symm hk]⟩
     have hES:Ext S w { w with heap:=w.heap.setIfInBounds p.blk (.map (en.modify i.toNat fun e=>{ e with val:=yv }) clock) }:=hE.mono fun k hk e=>hap.1 (e▸hk)
     refine⟨rfl,_, ?_,hE.mono fun k hk e=>?_,hr.write hgb hp hE ?_,fun y hy=>?_⟩
     ·have hget:(getObj p.blk).run P w=.ok (.map en clock) w:=by simp[getObj,Sem.run,e1]
      have hset:∀o,(setObj p.blk o).run P w=.ok () { w with heap:=w.heap.setIfInBounds p.blk o }:=fun o=>by simp[setObj,Sem.run,e1]
      unfold Instr.entryStore;simp only[Sem.run_bind,Result.andThen_ok,Sem.run_pure,hget,asInt,asIntOf,hfind,hset]
     ·subst e;exact hk.elim hap.1 hap.2
     ·refine⟨en.modify i.toNat fun e=>{ e with val:=yv },clock,by simp[hlt],by simp[e2],fun j k' x' e' h1 h2=>?_,by simp[e4],fun j e' he'=>?_⟩
      ·rw[List.getElem?_set] at h1;rw[Array.getElem?_modify] at h2;by_cases hij:i.toNat=j
       ·subst hij;rw[if_pos rfl,if_pos (by rw[←e2];exact hil)] at h1;simp only[Option.some.injEq,Prod.mk.injEq] at h1;obtain⟨rfl,rfl⟩:=h1;rw[if_pos rfl] at h2;obtain⟨e0,he0,rfl⟩:=Option.map_eq_some_iff.1 h2;obtain⟨a,_⟩:=e3 i.toNat e.1 e.2 e0 he he0;exact⟨a.mono hES (fun _ h=>h) fun _ _ h=>h,hy.mono hES (fun _ h=>h) fun _ _ h=>h⟩
       ·rw[if_neg hij] at h1 h2;obtain⟨a,b⟩:=e3 j k' x' e' h1 h2;exact⟨a.mono hES (fun _ h=>h) fun _ _ h=>h,b.mono hES (fun _ h=>h) fun _ _ h=>h⟩
      ·rw[Array.getElem?_modify] at he';split at he'
       ·obtain⟨e0,he0,rfl⟩:=Option.map_eq_some_iff.1 he';exact e5 j e0 he0
       ·exact e5 j e' he'
     ·simp only[List.mem_singleton] at hy;subst hy;exact⟨p,hp⟩
    ·cases h
   ·cases h
  ·cases h
 ·cases h
theorem xConv_ok (hT:TabOK P Θ) {src dst:TypeId} {hc:Heap} {n0:Nat} {x v:AV} {c:Cls} {u:Upd} {xv:Value} (h:xConv Θ src dst x hc n0=some (c,v,u)) (hx:VR w S m x xv)
  (hcont:c≠.P→∀b o p,(c=.L→b<n0)→hc b=some o→m b=some p→CR w S m p o):u=[]∧(convert src dst xv).run P w=.ok xv w∧VR w S m v xv:=by
 unfold xConv at h;split at h
 ·rename_i esz e0 l0 b ty hk1 hk2
  obtain⟨ti,hti,hk1⟩:=Option.map_eq_some_iff.1 hk1;obtain⟨ti2,hti2,hk2⟩:=Option.map_eq_some_iff.1 hk2;obtain⟨d1,hu1,_,hkd1⟩:=(hT _ ti hti).und;obtain⟨d2,hu2,_,hkd2⟩:=(hT _ ti2 hti2).und;rw[hk1] at hkd1;rw[hk2] at hkd2;obtain⟨inf,rfl,hinf,hsz,_⟩:=hkd1
  replace hkd2:d2=.unsafePointer:=hkd2
  subst hkd2;split at h
  ·rename_i es hes
   split at h
   ·rename_i el
    split at h
    ·rename_i hcond
     simp only[Option.some.injEq,Prod.mk.injEq] at h;obtain⟨rfl,rfl,rfl⟩:=h
     cases hx with
     |tp _ p _ hm ht=>
     have hCR:=hcont (by unfold rdCls;split<;>simp) b _ p (fun hL=>rdCls_L (a:=.ptr b 0 0) hL rfl) hes hm;obtain⟨arr,e',c1,c2,c3,c4,c5,c6⟩:=hCR.erT;obtain⟨rfl,hoff,hone⟩:=c6 _ _ ht;have hz:=(c5.each 0 el rfl).1;have hsh:w.shape? p.blk=some (e',arr.size):=by simp[World.shape?,c1]
     have:=Lib.run_to_unsafe (P:=P) w ⟨p.blk,p.off,none⟩ hu1 hu2 hinf (by rw[hsz];exact hcond.1) hsh (by
      show p.off<arr.size
      rw[hoff,hone rfl,←hz];exact hcond.2)
     exact⟨rfl,this,.tp b p _ hm ht⟩
    ·cases h
   ·cases h
  ·cases h
 ·rename_i esz e0 l0 b ty hk1 hk2
  obtain⟨ti,hti,hk1⟩:=Option.map_eq_some_iff.1 hk1;obtain⟨ti2,hti2,hk2⟩:=Option.map_eq_some_iff.1 hk2;obtain⟨d1,hu1,_,hkd1⟩:=(hT _ ti hti).und;obtain⟨d2,hu2,_,hkd2⟩:=(hT _ ti2 hti2).und;rw[hk1] at hkd1;rw[hk2] at hkd2;obtain⟨inf,rfl,hinf,hsz,hlies⟩:=hkd2
  replace hkd1:d1=.unsafePointer:=hkd1
  subst hkd1;split at h
  ·rename_i es hes
   split at h
   ·rename_i el
    split at h
    ·rename_i hcond
     obtain⟨hl,rfl,hlen⟩:=hcond;simp only[Option.some.injEq,Prod.mk.injEq] at h;obtain⟨rfl,rfl,rfl⟩:=h
     cases hx with
     |tp _ p _ hm ht=>
     have hCR:=hcont (by unfold rdCls;split<;>simp) b _ p (fun hL=>rdCls_L (a:=.ptr b 0 0) hL rfl) hes hm;obtain⟨arr,e',c1,c2,c3,c4,c5,c6⟩:=hCR.erT;obtain⟨rfl,hoff,hone⟩:=c6 _ _ ht;have hz:=(c5.each 0 el rfl).1;have hsh:w.shape? p.blk=some (e',arr.size):=by simp[World.shape?,c1]
     have:=Lib.run_from_unsafe (P:=P) w ⟨p.blk,p.off,none⟩ hu1 hu2 hinf hsh (by
      show liesAt P P.depth e' (arr.size / P.cellsOf e') p.off e' 1=true
      rw[hoff,hone rfl,←hz,hlen];exact hlies hl)
     exact⟨rfl,this,.tp b p _ hm ht⟩
    ·cases h
   ·cases h
  ·cases h
 ·cases h
def Kill (m:Pm) (s:Nat) (u:Upd):Prop:=∀y∈u,y.1≠s→∃p,m y.1=some p
theorem aopX_sound (hT:TabOK P Θ) {o:Oper} {t:Fr} {a:Act} {hc:Heap} {n0 s:Nat} {c:Cls} {v:AV} {u:Upd} (h:aopX Θ o.op t hc n0 s=some (c,v,u))
  (hev:∀x∈o.op.operands,EV w S m t a x) (hg:∀b o p,c≠.P→(c=.L→b<n0)→m b=some p→hc b=some o→g b=some o) (hs:m s=none) (hr:Rel w S F m g):Post P o a w S F m g s v u∧Kill m s u:=by
 have hcont:c≠.P→∀b o p,(c=.L→b<n0)→hc b=some o→m b=some p→CR w S m p o:=fun hP b o p hb hh hm=>hr.content b o p (hg b o p hP hb hm hh) hm
 have nk:∀{u:Upd},u=[]→Kill m s u:=fun hu y hy=>by subst hu;cases hy
 obtain⟨dst,op,type,pos,after,guard⟩:=o;simp only at h hev;unfold aopX at h;split at h
 ·rename_i op ty x y z
  split at h
  ·rename_i a1 a2 h1 h2
   obtain⟨h4,_,hu⟩:=P1_inv h;obtain⟨v',h5,h6⟩:=xBin_ok (ox:=x) hT h4 (hev x (by simp[Op.operands]) _ h1) (hev y (by simp[Op.operands]) _ h2);exact⟨.pure hr hu (by simp only[execOp,Sem.run_bind] at h5 ⊢;rw[h5];rfl) h6,nk hu⟩
  ·cases h
 ·rename_i fn first caps
  split at h
  ·rename_i f
   split at h
   ·rename_i hemp
    have hemp':caps=#[]:=by simpa[Array.isEmpty] using hemp
    subst hemp';split at h
    ·rename_i cs hcs
     obtain⟨h4,_,hu⟩:=P1_inv h;simp only[Option.some.injEq] at h4;subst h4;have hL:=evs_ok (w:=w) (S:=S) (m:=m) (a:=a) (fun x hx=>hev x (by simpa[Op.operands] using hx)) hcs;refine⟨.pure hr hu (v':=.func (.func f) ⟨first.toList.map a.eval⟩ #[]) ?_ (.bm f cs _ hL.1 hL.2),nk hu⟩;have:first.map a.eval=⟨first.toList.map a.eval⟩:=by apply Array.ext';simp
     simp[execOp,Instr.makeFunc,this]
    ·cases h
   ·cases h
  ·cases h
 ·rename_i ty x y
  split at h
  ·rename_i ti a1 a2 hti h1 h2
   obtain⟨v',w',p,h3,h4⟩:=xMake_ok (hT ty ti hti) h (hev x (by simp[Op.operands]) _ h1) (hev y (by simp[Op.operands]) _ h2) hs hr;refine⟨.born hs ⟨v',w',p,by simp[execOp,h3],h4⟩,fun y hy hne=>?_⟩;unfold xMake at h;split at h
   ·split at h
    ·simp only[Option.some.injEq,Prod.mk.injEq] at h;obtain⟨_,_,rfl⟩:=h;simp only[List.mem_singleton] at hy;subst hy;exact absurd rfl hne
    ·cases h
   ·cases h
  ·cases h
 ·rename_i x xt asserted ok
  split at h
  ·rename_i ti h1 hti
   split at h
   ·rename_i hok
    subst hok;split at h
    ·rename_i z hz
     obtain⟨h4,_,hu⟩:=P1_inv h;simp only[Option.some.injEq] at h4;subst h4;have hx:=hev x (by simp[Op.operands]) _ h1;obtain⟨inf,zv,hi,hzz,hvz⟩:=(hT _ ti hti).zv z hz
     replace hvz:=hvz w S m
     obtain⟨d,hu2,hrow,_⟩:=(hT _ ti hti).und;generalize hxv:a.eval x=xv at hx;cases hx;have hzero:(zeroValue asserted).run P w=.ok zv w:=by simp[zeroValue,typeInfo,hi,hzz]
     refine⟨.pure hr hu (v':=.tuple #[zv,.bool false]) ?_ (.tup _ _ rfl fun i c v h1 h2=>?_),nk hu⟩
     ·have:(Instr.typeAssert .nilIface xt asserted true).run P w=.ok (.tuple #[zv,.bool false]) w:=by
       unfold Instr.typeAssert;simp only[Sem.run_bind,run_underlying hu2,Result.andThen_ok];cases d<;>simp[hzero]
      simp[execOp,hxv,this]
     ·match i with
      |0=>simp at h1 h2;subst h1 h2;exact hvz
      |1=>simp at h1 h2;subst h1 h2;exact .bool _
      |n+2=>simp at h1
    ·cases h
   ·cases h
  ·cases h
 ·rename_i src dst x
  split at h
  ·rename_i a1 h1
   obtain⟨hu,h2,h3⟩:=xConv_ok hT h (hev x (by simp[Op.operands]) _ h1) hcont;exact⟨.pure hr hu (by simp[execOp,h2]) h3,nk hu⟩
  ·cases h
 ·rename_i ty x k
  split at h
  ·rename_i ti a1 a2 hti h1 h2
   have hW:c=.W:=by
    have h:=h;unfold xEntry at h
    repeat' split at h
    all_goals first|(simp only[Option.some.injEq,Prod.mk.injEq] at h;exact h.1.symm)|cases h
   obtain⟨v',w',h4,h5,h6,h7,h8⟩:=xEntry_ok (hT ty ti hti) h (hev x (by simp[Op.operands]) _ h1) (hev k (by simp[Op.operands]) _ h2) (fun b o p hm hh=>hg b o p (by rw[hW];simp) (by rw[hW];simp) hm hh) hr;exact⟨⟨v',w',m,.inl (by simp[execOp,h4]),h5,fun _ _ h=>h,fun _ _=>rfl,h6,h7⟩,fun y hy _=>h8 y hy⟩
  ·cases h
 ·rename_i ty x st y
  split at h
  ·rename_i a1 a2 a3 h1 h2 h3
   have hW:c=.W:=by
    have h:=h;unfold xEntryStore at h
    repeat' split at h
    all_goals first|(simp only[Option.some.injEq,Prod.mk.injEq] at h;exact h.1.symm)|cases h
   obtain⟨rfl,w',h4,h5,h6,h7⟩:=xEntryStore_ok (P:=P) (t:=ty) h (hev x (by simp[Op.operands]) _ h1) (hev st (by simp[Op.operands]) _ h2) (hev y (by simp[Op.operands]) _ h3) (fun b o p hm hh=>hg b o p (by rw[hW];simp) (by rw[hW];simp) hm hh) hr;exact⟨⟨undef,w',m,.inr ⟨by simp[execOp,h4],rfl⟩,h5,fun _ _ h=>h,fun _ _=>rfl,.tup [] [] rfl (fun i c v h=>by simp at h),h6⟩,fun y hy _=>h7 y hy⟩
  ·cases h
 ·rename_i ty x lo hi mx
  split at h
  ·rename_i b off len sz e h1
   split at h
   ·rename_i c0 b2 off2 len2 sz2 u0 h2
    split at h
    ·rename_i hb
     have hb':b2=b:=by simpa using hb
     subst hb';simp only[Option.some.injEq,Prod.mk.injEq] at h;obtain⟨rfl,rfl,rfl⟩:=h;have hev':∀z∈(Op.slice ty x lo hi mx).operands,EV w S m (plainF t) a z:=fun z hz=>(hev z hz).plain
     obtain⟨v',w',m',q1,q2,q3,q4,q5,q6⟩:=aop0_sound (o:=⟨dst,.slice ty x lo hi mx,type,pos,after,guard⟩) (a:=a) hT h2 hev' hg hs hr;refine⟨⟨v',w',m',q1,q2,q3,q4, ?_,q6⟩,fun y hy hne=>aop0_kill h2 hev' y hy hne⟩;have hx:=hev x (by simp[Op.operands]) _ h1
     have hp:∃p o,m b2=some p∧p.ty=some (e,o):=by
      generalize a.eval x=xv at hx;generalize hav:AV.ts b2 off len sz e=av at hx;cases hx<;>simp only[reduceCtorEq,AV.ts.injEq] at hav
      obtain⟨rfl,_,_,_,rfl⟩:=hav;exact⟨_,_,‹m _=some _›,‹_›⟩
     obtain⟨p,o,hp1,hp2⟩:=hp;generalize hav:AV.sl b2 off2 len2 sz2=av at q5;cases q5<;>simp only[reduceCtorEq,AV.sl.injEq] at hav
     case sl b3 off3 len3 cap p3 r1 r2 r3 r4 rm=>
     obtain⟨rfl,rfl,rfl,rfl⟩:=hav;have:=q3 _ _ hp1;rw[rm] at this;cases this;exact .ts _ _ _ _ _ e o rm r1 r2 r3 r4 hp2
    ·cases h
   ·cases h
  ·cases h
 ·rename_i cl
  split at h
  ·rename_i b hcal
   split at h
   ·rename_i as h1
    have hL:=evs_ok (w:=w) (S:=S) (m:=m) (a:=a) (fun x hx=>hev x (by simp only[Op.operands,Call.operands,Array.mem_append];exact .inr (by simpa using hx))) h1;have hargs:cl.args.map a.eval=(cl.args.toList.map a.eval).toArray:=by apply Array.ext';simp
    have hcls:c=.P∨c=.W:=by
     have h:=h;unfold xBuiltin at h
     repeat' split at h
     all_goals first|(simp only[Option.some.injEq,Prod.mk.injEq] at h;first|exact .inl h.1.symm|exact .inr h.1.symm)|cases h
    obtain⟨v',w',h4,h5,h6,h7,h8⟩:=xBuiltin_ok (ty:=type) hT h hL (fun b o p hP hnL hm hh=>hg b o p hP (fun hL=>(hnL hL).elim) hm hh) hr (cl.args.map fun| .const _=>true|_=>false);refine⟨⟨v',w',m,.inl ?_,h5,fun _ _ h=>h,fun _ _=>rfl,h6,h7⟩,fun y hy _=>h8 y hy⟩;simp only[execOp,resolve,hcal,hargs,Sem.run_bind,Sem.run_pure,Result.andThen_ok,invoke];exact h4
   ·cases h
  ·cases h
 ·cases h
theorem aopX_upd {op:Op} {t:Fr} {h:Heap} {n0 s:Nat} {c:Cls} {v:AV} {u:Upd} (ha:aopX Θ op t h n0 s=some (c,v,u)):UO (fun _=>True) c n0 s h u:=by
 have wr:∀{b:Nat} {o:Option AO},h b≠none→UO (fun _=>True) .W n0 s h [(b,o)]:=fun hb=>
  ⟨fun h=>absurd rfl h,(fun h=>by cases h),(fun x hx=>by simp at hx;subst hx;exact .inr hb),fun x hx=> .inr trivial⟩
 have rdc:∀{b:Nat},UO (fun _=>True) (rdCls n0 (.ptr b 0 0)) n0 s h []:=nil_upd;unfold aopX at ha;split at ha
 ·split at ha
  ·exact P1_upd ha
  ·cases ha
 ·split at ha
  ·split at ha
   ·split at ha
    ·exact P1_upd ha
    ·cases ha
   ·cases ha
  ·cases ha
 ·split at ha
  ·unfold xMake at ha;split at ha
   ·split at ha
    ·simp only[Option.some.injEq,Prod.mk.injEq] at ha;obtain⟨rfl,_,rfl⟩:=ha;exact one_upd (by simp)
    ·cases ha
   ·cases ha
  ·cases ha
 ·split at ha
  ·split at ha
   ·split at ha
    ·exact P1_upd ha
    ·cases ha
   ·cases ha
  ·cases ha
 ·split at ha
  ·unfold xConv at ha
   repeat' split at ha
   all_goals first|(simp only[Option.some.injEq,Prod.mk.injEq] at ha;obtain⟨rfl,_,rfl⟩:=ha;exact nil_upd)|cases ha
  ·cases ha
 ·split at ha
  ·unfold xEntry at ha
   repeat' split at ha
   all_goals first|(simp only[Option.some.injEq,Prod.mk.injEq] at ha;obtain⟨rfl,_,rfl⟩:=ha;exact wr (by simp[*]))|cases ha
  ·cases ha
 ·split at ha
  ·unfold xEntryStore at ha
   repeat' split at ha
   all_goals first|(simp only[Option.some.injEq,Prod.mk.injEq] at ha;obtain⟨rfl,_,rfl⟩:=ha;exact wr (by simp[*]))|cases ha
  ·cases ha
 ·split at ha
  ·split at ha
   ·rename_i h2
    split at ha
    ·simp only[Option.some.injEq,Prod.mk.injEq] at ha;obtain⟨rfl,rfl,rfl⟩:=ha;have:=aop0_upd h2;exact⟨this.1,this.2.1,this.2.2.1,fun _ _=> .inr trivial⟩
    ·cases ha
   ·cases ha
  ·cases ha
 ·split at ha
  ·split at ha
   ·unfold xBuiltin at ha
    repeat' split at ha
    all_goals first|(simp only[Option.some.injEq,Prod.mk.injEq] at ha;obtain⟨rfl,_,rfl⟩:=ha;first|exact nil_upd|exact wr (by simp[*]))|cases ha
   ·cases ha
  ·cases ha
 ·cases ha
theorem aopT_upd {op:Op} {t:Fr} {h:Heap} {n0 s:Nat} {c:Cls} {v:AV} {u:Upd} (ha:aopT Θ op t h n0 s=some (c,v,u)):UO (fun _=>True) c n0 s h u:=by
 unfold aopT at ha;split at ha
 ·split at ha
  ·split at ha
   ·split at ha
    ·simp only[Option.some.injEq,Prod.mk.injEq] at ha;obtain⟨rfl,_,rfl⟩:=ha;exact one_upd (by simp)
    ·cases ha
   ·cases ha
  ·cases ha
 ·split at ha
  ·split at ha
   ·exact P1_upd ha
   ·cases ha
  ·cases ha
 ·split at ha
  ·split at ha
   ·split at ha
    ·split at ha
     ·split at ha
      ·rename_i hap
       simp only[Option.some.injEq,Prod.mk.injEq] at ha;obtain⟨rfl,_,rfl⟩:=ha;exact append_upd hap (fun _ _ _ _ _=>trivial)
      ·cases ha
     ·split at ha
      ·rename_i hap
       simp only[Option.some.injEq,Prod.mk.injEq] at ha;obtain⟨rfl,_,rfl⟩:=ha;exact append_upd hap (fun _ _ _ _ _=>trivial)
      ·cases ha
     ·cases ha
    ·cases ha
   ·cases ha
  ·cases ha
 ·cases ha
theorem append_cls {ti:TI} {h:Heap} {n0 s:Nat} {x y v:AV} {c:Cls} {u:Upd} (ha:aAppend ti h n0 s x y=some (c,v,u)):∀z∈u,z.1=s∨∃off len sz,x=.sl z.1 off len sz:=by
 intro z hz;have:=(append_upd (K:=fun b=>∃off len sz,x=.sl b off len sz) ha (fun b off len sz e=>⟨off,len,sz,e⟩)).2.2.2 z hz;exact this
theorem aopT_sound (hT:TabOK P Θ) {o:Oper} {t:Fr} {a:Act} {hc:Heap} {n0 s:Nat} {c:Cls} {v:AV} {u:Upd} (h:aopT Θ o.op t hc n0 s=some (c,v,u))
  (hev:∀x∈o.op.operands,EV w S m t a x) (hg:∀b o p,c≠.P→(c=.L→b<n0)→m b=some p→hc b=some o→g b=some o) (hs:m s=none) (hr:Rel w S F m g):Post P o a w S F m g s v u∧Kill m s u:=by
 have nk:∀{u:Upd},u=[]→Kill m s u:=fun hu y hy=>by subst hu;cases hy
 obtain⟨dst,op,type,pos,after,guard⟩:=o;simp only at h hev;unfold aopT at h;split at h
 ·rename_i ty
  split at h
  ·split at h
   ·rename_i ti hti
    split at h
    ·rename_i hsc
     simp only[Option.some.injEq,Prod.mk.injEq] at h;obtain⟨_,hv,hu⟩:=h;subst hv hu;obtain⟨i,z,hi,_,hz,hzc⟩:=(hT ty ti hti).info;obtain⟨p,k1,k2,k3,k4⟩:=new_one hr hs (v:=z) (hzc w S m) hsc ty;refine⟨.born hs ⟨.pointer (some ⟨w.heap.size,0,none⟩),_,p, ?_,(ext_alloc w _).old hr, ?_,k1⟩,fun y hy hne=>?_⟩
     ·simp[execOp,Instr.alloc,zeroValue,typeInfo,hi,hz,newVar,newRow]
     ·have:=VR.tp (w:=w.alloc (.cells z.cells ty)) (S:=S) (m:=setm m s p) s p ty setm_same k4;simpa[k2,k3] using this
     ·simp only[List.mem_singleton] at hy;subst hy;exact absurd rfl hne
    ·cases h
   ·cases h
  ·cases h
 ·rename_i ty gg
  split at h
  ·rename_i ti cells off hti hgl
   split at h
   ·rename_i hle
    obtain⟨h4,_,hu⟩:=P1_inv h;have hv:=(hr.glob gg _ hgl).up (m:=m)
    have hload:aLoad ti g 0 (.rp cells off)=some (rdCls 0 (.rp cells off),v,[]):=by
     simp only[aLoad,rdCells,hle,if_true,h4]
    obtain⟨_,v',h5,h6⟩:=load_ok (hT ty ti hti) hload hv (fun b o p _ hb hm=>hr.content b o p hb hm)
    exact⟨.pure hr hu (v':=v') (by
     have:a.eval (.global gg)=.pointer (some ⟨gg,0,none⟩):=rfl
     simp[execOp,this,h5]) h6,nk hu⟩
   ·cases h
  ·cases h
 ·rename_i cl
  split at h
  ·rename_i hcal
   split at h
   ·rename_i x y ti ti2 h1 hti hti2
    cases hts:cl.argTypes[0]? with
    |none=>simp[hts] at hti
    |some t0=>
    cases hts2:cl.argTypes[1]? with
    |none=>simp[hts2] at hti2
    |some t1=>
    simp only[hts,Option.bind_some] at hti;simp only[hts2,Option.bind_some] at hti2;have hL:=evs_ok (w:=w) (S:=S) (m:=m) (a:=a) (fun x hx=>hev x (by simp only[Op.operands,Call.operands,Array.mem_append];exact .inr (by simpa using hx))) h1;have hargs:cl.args.map a.eval=(cl.args.toList.map a.eval).toArray:=by apply Array.ext';simp
    generalize cl.args.toList.map a.eval=vs at hL hargs;split at h
    ·rename_i hcond
     have hund:=(hT t0 ti hti).el _ hcond.1
     match vs,hL with
     |[xv,yv],hL=>
     have hx:=hL.2 0 _ _ rfl rfl;have hy:=hL.2 1 _ _ rfl rfl
     have happ:∀ts:Array TypeId,ts[0]?=some t0→ts[1]?=some t1→(Builtin.append_ ts type #[xv,yv]).run P w=(Builtin.append_ #[t0,t1] type #[xv,yv]).run P w:=fun ts hh hh2=>by
      simp only[Builtin.append_,hh,hh2];rfl
     have main:∀(x':AV),plain x=x'→(x'=.nils∨∃b len sz p o,x'=.sl b 0 len sz∧m b=some p∧p.ty=some (gU,o))→(match aAppend ti hc n0 s (plain x) y with
       |some (c,v,u)=>some (c,retype v,u)
       |none=>none)=some (c,v,u)→Post P ⟨dst,.call cl,type,pos,after,guard⟩ a w S F m g s v u∧Kill m s u:=by
      intro x' hx' hor h;split at h
      ·rename_i c' v0 u' hap
       simp only[Option.some.injEq,Prod.mk.injEq] at h;obtain⟨rfl,rfl,rfl⟩:=h;rw[hx'] at hap;obtain⟨v',w',m',h5,h6,h7,h8,h9,h10,h11⟩:=append_ok (ty:=type) (hT t0 ti hti) (hT t1 ti2 hti2) hcond.2 hap (hx'▸hx.plain) hy hg hs hr;refine⟨⟨v',w',m',.inl ?_,h6,h7,h8, ?_,h10⟩,fun z hz hne=>?_⟩
       ·simp only[execOp,resolve,hcal,hargs,Sem.run_bind,Sem.run_pure,Result.andThen_ok,invoke,builtin];rw[happ _ hts hts2,h5];rfl
       ·have hT':=h11 gU hund hor;cases v0
        case sl b off len sz=>
         obtain⟨p,o,q1,q2⟩:=hT' b off len sz rfl;generalize hav:AV.sl b off len sz=av at h9;cases h9<;>simp only[reduceCtorEq,AV.sl.injEq] at hav
         case sl b2 off2 len2 cap p2 r1 r2 r3 r4 rm=>
         obtain⟨rfl,rfl,rfl,rfl⟩:=hav;rw[rm] at q1;cases q1;exact .ts b off len cap p gU o rm r1 r2 r3 r4 q2
        all_goals exact h9
       ·rcases append_cls hap z hz with h|⟨off,len,sz,h⟩
        ·exact absurd h hne
        ·rcases hor with rfl|⟨b,l2,s2,p,o,rfl,q1,q2⟩
         ·cases h
         ·cases h;exact⟨p,q1⟩
      ·cases h
     split at h
     ·exact main .nils rfl (.inl rfl) h
     ·rename_i b len sz _
      refine main (.sl b 0 len sz) rfl (.inr ?_) h;generalize hav:AV.ts b 0 len sz 5=av at hx;cases hx<;>simp only[reduceCtorEq,AV.ts.injEq] at hav
      case ts b2 off2 len2 cap p ty2 o q1 q2 q3 q4 ht hm=>
      obtain⟨rfl,rfl,rfl,rfl,rfl⟩:=hav;exact⟨b,len,p.sz,p,o,rfl,‹_›,‹_›⟩
     ·cases h
    ·cases h
   ·cases h
  ·cases h
 ·cases h
theorem aop_cases {op:Op} {t:Fr} {h:Heap} {n0 s:Nat} {c:Cls} {v:AV} {u:Upd} (ha:aop Θ op t h n0 s=some (c,v,u)):c.five=true∧
  (aopT Θ op t h n0 s=some (c,v,u)∨aop0 Θ op t h n0 s=some (c,v,u)∨aopX Θ op t h n0 s=some (c,v,u)∨aop0 Θ op (plainF t) h n0 s=some (c,v,u)):=by
 have key:∀r,five r=some (c,v,u)→c.five=true∧r=(c,v,u):=fun r hr=>by
  unfold five at hr;split at hr
  ·rename_i h5
   simp only[Option.some.injEq] at hr;subst hr;exact⟨h5,rfl⟩
  ·cases hr
 unfold aop at ha;split at ha
 ·rename_i r hr
  obtain⟨h1,rfl⟩:=key r ha;exact⟨h1,.inl hr⟩
 ·split at ha
  ·rename_i r hr
   obtain⟨h1,rfl⟩:=key r ha;exact⟨h1,.inr (.inl hr)⟩
  ·split at ha
   ·rename_i r hr
    obtain⟨h1,rfl⟩:=key r ha;exact⟨h1,.inr (.inr (.inl hr))⟩
   ·split at ha
    ·rename_i r hr
     obtain⟨h1,rfl⟩:=key r ha;exact⟨h1,.inr (.inr (.inr hr))⟩
    ·cases ha
theorem UO.any {K:Nat→Prop} {c:Cls} {n0 s:Nat} {h:Heap} {u:Upd} (hu:UO K c n0 s h u):UO (fun _=>True) c n0 s h u:=
 ⟨hu.1,hu.2.1,hu.2.2.1,fun _ _=> .inr trivial⟩
theorem op_plain (hT:TabOK P Θ) {N:Nat} {ops:Array Oper} {n0 i:Nat} {t:Fr} {h:Heap} {x:Nat} {o:Oper} {c:Cls} {v:AV} {u:Upd} (ho:ops[i]?=some o) (hg:gd ops t o=some true) (hd:inN N o.dst=true)
  (hop:aop Θ o.op t h n0 (n0+i)=some (c,v,u)):OpS P N ops n0 i ⟨t,h,x⟩ c ⟨put t o.dst v,upds h u,x⟩:=by
 obtain⟨h5,hc⟩:=aop_cases hop
 have hnd:∀cl,o.op≠.defer cl:=fun cl hcl=>by
  rw[hcl] at hc;simp[aopT,aop0,aopX] at hc
 rcases hc with h1|h1|h1|h1
 ·exact op_post ho hg hd hnd (aopT_upd h1) (not_five h5) fun w S F m g a hev hag hs hr=>aopT_sound (a:=a) hT h1 hev (fun b o p q1 q2 q3 q4=>hag b o p (needs_five h5 q1 q2) q3 q4) hs hr
 ·exact op_post ho hg hd hnd (aop0_upd h1).any (not_five h5) fun w S F m g a hev hag hs hr=>
   ⟨aop0_sound (a:=a) hT h1 hev (fun b o p q1 q2 q3 q4=>hag b o p (needs_five h5 q1 q2) q3 q4) hs hr,fun y hy hne=>aop0_kill h1 hev y hy hne⟩
 ·exact op_post ho hg hd hnd (aopX_upd h1) (not_five h5) fun w S F m g a hev hag hs hr=>aopX_sound (a:=a) hT h1 hev (fun b o p q1 q2 q3 q4=>hag b o p (needs_five h5 q1 q2) q3 q4) hs hr
 ·exact op_post ho hg hd hnd (aop0_upd h1).any (not_five h5) fun w S F m g a hev hag hs hr=>
   ⟨aop0_sound (a:=a) hT h1 (fun x hx=>(hev x hx).plain) (fun b o p q1 q2 q3 q4=>hag b o p (needs_five h5 q1 q2) q3 q4) hs hr,fun y hy hne=>aop0_kill h1 (fun x hx=>(hev x hx).plain) y hy hne⟩
end
end Go.Av
