/-
  What an operation does to abstract values. Conditions: none.
-/
import Derived.Test.YtiiogleijmcccaaA1
namespace Go.Av

inductive EK where
  | int (k : IntKind) | bool | str
  deriving DecidableEq

inductive TK where
  | plain
  | bool
  | int (k : IntKind)
  | str
  | struct (fs : List (Nat × Nat × Bool))
  | array (n esz : Nat) (eagg : Bool)
  | slice (esz ebytes : Nat) (ezero : List AV)
  | map (keq : List EK) (vzero : AV)

/-- What is known of a type: its cells, whether it is a struct or an array, its kind, its zero value's cells, the kinds of cells by which two of it are compared. -/
structure TI where
  size : Nat
  agg : Bool
  kind : TK
  zero : List AV
  eqk : Option (List EK)

abbrev Tab := Nat → Option TI

def cellsOf : AV → Option (List AV)
  | .agg cs => some cs
  | .any => none
  | .tup _ => none
  | a => some [a]

def ofCells (agg : Bool) (cs : List AV) : Option AV :=
  if agg then some (.agg cs) else match cs with
    | [c] => some c
    | _ => none

def cv1 : Value → Option AV
  | .bool b => some (.bool b)
  | .int k n => some (.int k n)
  | .string s => some (.str s)
  | .pointer none => some .nilp
  | .slice none 0 0 => some .nils
  | .map none => some .nilm
  | .nilFunc => some .nilf
  | .nilIface => some .nili
  | _ => none

def cvs : List Value → Option (List AV)
  | [] => some []
  | v :: vs => match cv1 v, cvs vs with
    | some a, some as => some (a :: as)
    | _, _ => none

def cv : Value → Option AV
  | .agg vs => (cvs vs.toList).map .agg
  | v => cv1 v

def ev (t : Fr) : Operand → Option AV
  | .tmp x => some (t x)
  | .const v => cv v
  | .func f => some (.fn f [])
  | .global _ => none

def evs (t : Fr) : List Operand → Option (List AV)
  | [] => some []
  | o :: os => match ev t o, evs t os with
    | some a, some as => some (a :: as)
    | _, _ => none

/-- P: looks at no memory; L: looks at blocks below the region's own, may make its slot; Q: looks at memory, may make its slot; F: appends to a slot of the region; W: anything. -/
inductive Cls where
  | P | L | Q | F | W
  deriving DecidableEq

abbrev Upd := List (Nat × Option AO)

def upd (h : Heap) (b : Nat) (o : Option AO) : Heap := fun x => if x = b then o else h x

def upds (h : Heap) : Upd → Heap
  | [] => h
  | (b, o) :: l => upds (upd h b o) l

abbrev Res := Option (Cls × AV × Upd)

def rdCells (h : Heap) (sz : Nat) : AV → Option (List AV)
  | .ptr b i off => match h b with
    | some (.cells es) => match es[i]? with
      | some e => if off + sz ≤ e.length then some ((e.drop off).take sz) else none
      | none => none
    | _ => none
  | .rp cells off => if off + sz ≤ cells.length then some ((cells.drop off).take sz) else none
  | _ => none

def below (n0 : Nat) : AV → Bool
  | .ptr b _ _ | .sl b _ _ _ | .mp b => b < n0
  | _ => true

def rdCls (n0 : Nat) (a : AV) : Cls := if below n0 a then .L else .Q

def aLoad (ti : TI) (h : Heap) (n0 : Nat) (a : AV) : Res :=
  match rdCells h ti.size a with
  | some cs => match ofCells ti.agg cs with
    | some v => some (rdCls n0 a, v, [])
    | none => none
  | none => none

/-- The list with cs in the place of the cells from off on. -/
def over (e : List AV) (off : Nat) (cs : List AV) : List AV := e.take off ++ cs ++ e.drop (off + cs.length)

def aStore (ti : TI) (h : Heap) (a x : AV) : Res :=
  match a, cellsOf x with
  | .ptr b i off, some cs => match h b with
    | some (.cells es) => match es[i]? with
      | some e => if off + cs.length ≤ e.length ∧ cs.length = ti.size ∧ cs.all scal then some (.W, .tup [], [(b, some (.cells (es.set i (over e off cs))))]) else none
      | none => none
    | _ => none
  | _, _ => none

def aAlloc (ti : TI) (s : Nat) : Res := if ti.zero.all scal then some (.L, .ptr s 0 0, [(s, some (.cells [ti.zero]))]) else none

def aBox (s : Nat) (x : AV) : Res :=
  match cellsOf x with
  | some cs => if cs.all scal then some (.L, .ptr s 0 0, [(s, some (.cells [cs]))]) else none
  | none => none

def fill (place : Nat → Option (Nat × Nat)) (cells : List AV) : List (Nat × AV) → Option (List AV)
  | [] => some cells
  | (i, v) :: rest => match place i, cellsOf v with
    | some (off, size), some cs => if cs.length = size ∧ off + size ≤ cells.length then fill place (over cells off cs) rest else none
    | _, _ => none

def evp (t : Fr) : List (Nat × Operand) → Option (List (Nat × AV))
  | [] => some []
  | (i, o) :: os => match ev t o, evp t os with
    | some a, some as => some ((i, a) :: as)
    | _, _ => none

def aBuild (ti : TI) (ps : List (Nat × AV)) : Res :=
  match ti.kind with
  | .struct fs => match fill (fun i => (fs[i]?).map fun f => (f.1, f.2.1)) ti.zero ps with
    | some cs => some (.P, .agg cs, [])
    | none => none
  | .array _ esz _ => match fill (fun i => some (i * esz, esz)) ti.zero ps with
    | some cs => some (.P, .agg cs, [])
    | none => none
  | _ => none

def fillS (esz : Nat) (es : List (List AV)) : List (Nat × AV) → Option (List (List AV))
  | [] => some es
  | (i, v) :: rest => match cellsOf v with
    | some cs => if cs.length = esz ∧ i < es.length ∧ cs.all scal then fillS esz (es.set i cs) rest else none
    | none => none

def aBuildSlice (ti : TI) (len s : Nat) (ps : List (Nat × AV)) : Res :=
  match ti.kind with
  | .slice esz _ ez => if len = 0 then (if ps.isEmpty then some (.L, .nils, []) else none) else
    if len * esz ≤ 16777216 ∧ ez.length = esz ∧ 0 < esz ∧ ez.all scal then
      match fillS esz (List.replicate len ez) ps with
      | some es => some (.L, .sl s 0 len esz, [(s, some (.cells es))])
      | none => none
    else none
  | _ => none

def aMake (ti : TI) (s : Nat) (x y : AV) : Res :=
  match ti.kind, x, y with
  | .slice esz eb ez, .int _ n, .int _ m => if n = m ∧ 0 ≤ n ∧ n * eb ≤ 140737488355328 ∧ 0 < eb ∧ 0 < esz ∧ ez.length = esz ∧ ez.all scal then
      some (.L, .sl s 0 n.toNat esz, [(s, some (.cells (List.replicate n.toNat ez)))]) else none
  | _, _, _ => none

def aField (ti : TI) (a : AV) (f : Nat) : Res :=
  match ti.kind with
  | .struct fs => match fs[f]? with
    | some (o, sz, _) => if sz = 0 then none else match a with
      | .ptr b i off => some (.P, .ptr b i (off + o), [])
      | .rp cs off => some (.P, .rp cs (off + o), [])
      | _ => none
    | none => none
  | _ => none

def aFieldV (ti : TI) (a : AV) (f : Nat) : Res :=
  match ti.kind, a with
  | .struct fs, .agg cs => match fs[f]? with
    | some (o, sz, g) => if o + sz ≤ cs.length then match ofCells g ((cs.drop o).take sz) with
        | some v => some (.P, v, [])
        | none => none
      else none
    | none => none
  | _, _ => none

def aIndexAddr (ti : TI) (a ix : AV) : Res :=
  match ti.kind, a, ix with
  | .slice esz _ _, .sl b off len sz, .int _ i => if 0 ≤ i ∧ i < (len : Int) ∧ sz = esz then some (.P, .ptr b (off + i.toNat) 0, []) else none
  | .slice esz _ _, .ro es, .int _ i => if 0 ≤ i then match es[i.toNat]? with
      | some e => if e.length = esz then some (.P, .rp e 0, []) else none
      | none => none
    else none
  | .array n esz _, .ptr b j off, .int _ i => if 0 ≤ i ∧ i < (n : Int) then some (.P, .ptr b j (off + i.toNat * esz), []) else none
  | .array n esz _, .rp cs off, .int _ i => if 0 ≤ i ∧ i < (n : Int) then some (.P, .rp cs (off + i.toNat * esz), []) else none
  | _, _, _ => none

def aIndex (ti : TI) (a ix : AV) : Res :=
  match ti.kind, a, ix with
  | .array n esz g, .agg cs, .int _ i => if 0 ≤ i ∧ i < (n : Int) ∧ i.toNat * esz + esz ≤ cs.length then match ofCells g ((cs.drop (i.toNat * esz)).take esz) with
      | some v => some (.P, v, [])
      | none => none
    else none
  | .str, .str s, .int _ i => if 0 ≤ i then match s[i.toNat]? with
      | some b => some (.P, .int .u8 b.toNat, [])
      | none => none
    else none
  | _, _, _ => none

/-- A bound of a cut: given, or the one that stands for it. -/
def bd (d : Nat) : Option AV → Option Nat
  | none => some d
  | some (.int _ i) => if 0 ≤ i then some i.toNat else none
  | _ => none

def aSlice (ti : TI) (a : AV) (lo hi mx : Option AV) : Res :=
  match ti.kind, a, mx with
  | .slice esz _ _, .sl b off len sz, none => match bd len hi, bd 0 lo with
    | some h, some l => if h ≤ len ∧ l ≤ h ∧ sz = esz then some (.P, if l = 0 then .sl b off h sz else if l = h then .ro [] else .sl b (off + l) (h - l) sz, []) else none
    | _, _ => none
  | .slice esz _ _, .ro es, none => match bd es.length hi, bd 0 lo with
    | some h, some l => if h ≤ es.length ∧ l ≤ h ∧ (∀ e ∈ es, e.length = esz) then some (.P, .ro ((es.drop l).take (h - l)), []) else none
    | _, _ => none
  | .slice _ _ _, .nils, none => match bd 0 hi, bd 0 lo with
    | some 0, some 0 => some (.P, .nils, [])
    | _, _ => none
  | .slice _ _ _, .sl _ _ _ _, some (.int _ 0) | .slice _ _ _, .ro _, some (.int _ 0) | .slice _ _ _, .nils, some (.int _ 0) => match bd 1 hi, bd 0 lo with
    | some 0, some 0 => some (.P, .nils, [])
    | _, _ => none
  | .str, .str s, none => match bd s.size hi, bd 0 lo with
    | some h, some l => if h ≤ s.size ∧ l ≤ h then some (.P, .str (s.extract l h), []) else none
    | _, _ => none
  | _, _, _ => none

def bitsOf (op : BinOp) (k : IntKind) (x y : Int) : Option Int :=
  let a := BitVec.ofInt k.bits x
  let b := BitVec.ofInt k.bits y
  match op with
  | .and => some (k.wrap (a &&& b).toNat)
  | .or => some (k.wrap (a ||| b).toNat)
  | .xor => some (k.wrap (a ^^^ b).toNat)
  | .andNot => some (k.wrap (a &&& ~~~b).toNat)
  | _ => none

def eq1 : EK → AV → AV → Option Bool
  | .int k, .int k1 a, .int k2 b => if k1 = k ∧ k2 = k then some (a == b) else none
  | .bool, .bool a, .bool b => some (a == b)
  | .str, .str a, .str b => some (a == b)
  | _, _, _ => none

def eqs : List EK → List AV → List AV → Option Bool
  | [], [], [] => some true
  | k :: ks, x :: xs, y :: ys => match eq1 k x y, eqs ks xs ys with
    | some a, some b => some (a && b)
    | _, _ => none
  | _, _, _ => none

def aEq (ti : Option TI) (x y : AV) : Option Bool :=
  match x, y with
  | .bool a, .bool b => match ti.map (·.kind) with
    | some TK.bool => some (a == b)
    | _ => none
  | .agg xs, .agg ys => match ti with
    | some ti => match ti.eqk with
      | some ks => eqs ks xs ys
      | none => none
    | none => none
  | _, _ => none

def aBin (Θ : Tab) (op : BinOp) (ty : Nat) (x y : AV) : Option AV :=
  match op, x, y with
  | .shl, .int k a, .int _ b => if 0 ≤ b then some (.int k (k.wrap (a * 2 ^ (min b.toNat k.bits)))) else none
  | .shr, .int k a, .int _ b => if 0 ≤ b then some (.int k (a.fdiv (2 ^ (min b.toNat k.bits)))) else none
  | .add, .int k a, .int k' b => if k = k' then some (.int k (k.wrap (a + b))) else none
  | .sub, .int k a, .int k' b => if k = k' then some (.int k (k.wrap (a - b))) else none
  | .mul, .int k a, .int k' b => if k = k' then some (.int k (k.wrap (a * b))) else none
  | .quo, .int k a, .int k' b => if k = k' ∧ b ≠ 0 then some (.int k (k.wrap (a.tdiv b))) else none
  | .rem, .int k a, .int k' b => if k = k' ∧ b ≠ 0 then some (.int k (a.tmod b)) else none
  | .and, .int k a, .int k' b | .or, .int k a, .int k' b | .xor, .int k a, .int k' b | .andNot, .int k a, .int k' b =>
    if k = k' then (bitsOf op k a b).map (.int k) else none
  | .eql, .int k a, .int k' b => if k = k' then some (.bool (a == b)) else none
  | .neq, .int k a, .int k' b => if k = k' then some (.bool (a != b)) else none
  | .lss, .int k a, .int k' b => if k = k' then some (.bool (a < b)) else none
  | .leq, .int k a, .int k' b => if k = k' then some (.bool (a ≤ b)) else none
  | .gtr, .int k a, .int k' b => if k = k' then some (.bool (a > b)) else none
  | .geq, .int k a, .int k' b => if k = k' then some (.bool (a ≥ b)) else none
  | .eql, .bool a, .bool b => (aEq (Θ ty) (.bool a) (.bool b)).map .bool
  | .neq, .bool a, .bool b => (aEq (Θ ty) (.bool a) (.bool b)).map fun b => .bool (!b)
  | .eql, .agg xs, .agg ys => (aEq (Θ ty) (.agg xs) (.agg ys)).map .bool
  | .neq, .agg xs, .agg ys => (aEq (Θ ty) (.agg xs) (.agg ys)).map fun b => .bool (!b)
  | _, _, _ => none

def aUn (op : UnOp) (x : AV) : Option AV :=
  match op, x with
  | .not, .bool b => some (.bool !b)
  | .neg, .int k n => some (.int k (k.wrap (0 - n)))
  | _, _ => none

def aConv (Θ : Tab) (dst : Nat) (x : AV) : Option AV :=
  match (Θ dst).map (·.kind), x with
  | some (TK.int k), AV.int _ n => some (.int k (k.wrap n))
  | some TK.str, AV.str s => some (.str s)
  | _, _ => none

/-- A slice's elements. -/
def elems (h : Heap) (esz : Nat) : AV → Option (List (List AV))
  | .nils => some []
  | .ro es => if ∀ e ∈ es, e.length = esz then some es else none
  | .sl b off len sz => match h b with
    | some (.cells es) => if off + len ≤ es.length ∧ sz = esz then some ((es.drop off).take len) else none
    | _ => none
  | _ => none

def aAppend (ti : TI) (h : Heap) (n0 s : Nat) (x y : AV) : Res :=
  match ti.kind with
  | .slice esz eb ez => if 0 < esz ∧ 0 < eb ∧ ez.length = esz then match elems h esz y with
    | some new => match x with
      | .nils => if new.isEmpty then some (rdCls n0 y, .nils, []) else if new.length * eb ≤ 140737488355328 then some (rdCls n0 y, .sl s 0 new.length esz, [(s, some (.cells new))]) else none
      | .sl b off len sz => match h b with
        | some (.cells es) =>
          if sz = esz ∧ off + len ≤ es.length ∧ (len + new.length) * eb ≤ 140737488355328 then
            if off + len + new.length ≤ es.length ∧ off + len < es.length then
              some (.W, .sl b off (len + new.length) sz, [(b, some (.cells (es.take (off + len) ++ new ++ es.drop (off + len + new.length))))])
            else if off + len = es.length then
              some (if n0 ≤ b then .F else .W, .sl s 0 (len + new.length) sz, [(b, none), (s, some (.cells ((es.drop off) ++ new)))])
            else none
          else none
        | _ => none
      | _ => none
    | none => none
    else none
  | _ => none

def aLen (h : Heap) (n0 : Nat) : AV → Res
  | .nils => some (.P, .int .i64 0, [])
  | .sl _ _ len _ => some (.P, .int .i64 len, [])
  | .ro es => some (.P, .int .i64 es.length, [])
  | .str s => some (.P, .int .i64 s.size, [])
  | .nilm => some (.P, .int .i64 0, [])
  | .mp b => match h b with
    | some (.map es) => some (rdCls n0 (.mp b), .int .i64 es.length, [])
    | _ => none
  | _ => none

/-- Is the value of the type's kind? -/
def lenT (ti : TI) : AV → Bool
  | .nils | .sl _ _ _ _ | .ro _ => match ti.kind with
    | .slice _ _ _ => true
    | _ => false
  | .str _ => match ti.kind with
    | .str => true
    | _ => false
  | _ => false

def minInt : List AV → Option AV
  | [.int k x, .int k' y] => if k = k' then some (.int k (if y < x then y else x)) else none
  | _ => none

def cellEq (ks : List EK) (x y : AV) : Option Bool :=
  match cellsOf x, cellsOf y with
  | some xs, some ys => eqs ks xs ys
  | _, _ => none

def find (ks : List EK) (k : AV) : List (AV × AV) → Option (Option AV)
  | [] => some none
  | (k', x) :: l => match cellEq ks k k' with
    | some true => some (some x)
    | some false => find ks k l
    | none => none

def replace (ks : List EK) (k v : AV) : List (AV × AV) → Option (List (AV × AV))
  | [] => some [(k, v)]
  | (k', x) :: l => match cellEq ks k k' with
    | some true => some ((k, v) :: l)
    | some false => (replace ks k v l).map ((k', x) :: ·)
    | none => none

def keyOK (ks : List EK) (k : AV) : Bool := (cellEq ks k k).isSome

def aLookup (ti : TI) (h : Heap) (n0 : Nat) (x k : AV) (ok : Bool) : Res :=
  match ti.kind with
  | .map keq vz =>
    let es : Option (List (AV × AV)) := match x with
      | .nilm => some []
      | .mp b => match h b with
        | some (.map es) => some es
        | _ => none
      | _ => none
    match es with
    | some es => if keyOK keq k then match find keq k es with
      | some (some v) => some (rdCls n0 x, if ok then .tup [v, .bool true] else v, [])
      | some none => some (rdCls n0 x, if ok then .tup [vz, .bool false] else vz, [])
      | none => none
      else none
    | none => none
  | _ => none

def aMapUpdate (ti : TI) (h : Heap) (x k v : AV) : Res :=
  match ti.kind, x with
  | .map keq _, .mp b => match h b with
    | some (.map es) => if keyOK keq k then match replace keq k v es with
      | some es' => some (.W, .tup [], [(b, some (.map es'))])
      | none => none
      else none
    | _ => none
  | _, _ => none

def P1 (v : Option AV) : Res := v.map fun v => (.P, v, [])

def aBuiltin (Θ : Tab) (b : Builtin) (ts : Array TypeId) (as : List AV) (h : Heap) (n0 s : Nat) : Res :=
  match b with
  | .len => match as, (ts[0]?).bind Θ with
    | [x], some ti => if lenT ti x then aLen h n0 x else none
    | _, _ => none
  | .append => match as, (ts[0]?).bind Θ, (ts[1]?).bind Θ with
    | [x, y], some ti, some ti2 => match ti2.kind with
      | .slice _ _ _ => aAppend ti h n0 s x y
      | _ => none
    | _, _, _ => none
  | .min => P1 (minInt as)
  | _ => none

/-- What an operation that is no call of a Go function does. -/
def aop (Θ : Tab) (op : Op) (t : Fr) (h : Heap) (n0 s : Nat) : Res :=
  match op with
  | .move x | .assign x => P1 (ev t x)
  | .pick c a b => match ev t c, ev t a, ev t b with
    | some (.bool c), some a, some b => P1 (some (if c then a else b))
    | _, _, _ => none
  | .alloc ty => match Θ ty with
    | some ti => aAlloc ti s
    | none => none
  | .box _ x => match ev t x with
    | some x => aBox s x
    | none => none
  | .build ty ps => match Θ ty, evp t ps.toList with
    | some ti, some ps => aBuild ti ps
    | _, _ => none
  | .buildSlice ty len ps => match Θ ty, evp t ps.toList with
    | some ti, some ps => aBuildSlice ti len s ps
    | _, _ => none
  | .load ty a => match Θ ty, ev t a with
    | some ti, some a => aLoad ti h n0 a
    | _, _ => none
  | .store ty a x => match Θ ty, ev t a, ev t x with
    | some ti, some a, some x => aStore ti h a x
    | _, _, _ => none
  | .nilCheck x => match ev t x with
    | some (.ptr b i off) => P1 (some (.ptr b i off))
    | some (.rp cs off) => P1 (some (.rp cs off))
    | some (.fn f cs) => P1 (some (.fn f cs))
    | _ => none
  | .binOp op ty x y _ => match ev t x, ev t y with
    | some x, some y => P1 (aBin Θ op ty x y)
    | _, _ => none
  | .unOp op _ x => match ev t x with
    | some x => P1 (aUn op x)
    | none => none
  | .convert src dst x => match ev t x, Θ src with
    | some x, some _ => P1 (aConv Θ dst x)
    | _, _ => none
  | .makeFunc fn first caps => match fn with
    | .func f => if first.isEmpty then match evs t caps.toList with
        | some cs => P1 (some (.fn f cs))
        | none => none
      else none
    | _ => none
  | .makeSlice ty x y => match Θ ty, ev t x, ev t y with
    | some ti, some x, some y => aMake ti s x y
    | _, _, _ => none
  | .slice ty x lo hi mx => match Θ ty, ev t x with
    | some ti, some x =>
      match (match lo with | none => some none | some o => (ev t o).map some), (match hi with | none => some none | some o => (ev t o).map some), (match mx with | none => some none | some o => (ev t o).map some) with
      | some lo, some hi, some mx => aSlice ti x lo hi mx
      | _, _, _ => none
    | _, _ => none
  | .fieldAddr ty x f => match Θ ty, ev t x with
    | some ti, some a => aField ti a f
    | _, _ => none
  | .field ty x f => match Θ ty, ev t x with
    | some ti, some a => aFieldV ti a f
    | _, _ => none
  | .indexAddr ty x ix => match Θ ty, ev t x, ev t ix with
    | some ti, some a, some i => aIndexAddr ti a i
    | _, _, _ => none
  | .index ty x ix => match Θ ty, ev t x, ev t ix with
    | some ti, some a, some i => aIndex ti a i
    | _, _, _ => none
  | .extract x i => match ev t x with
    | some (.tup cs) => P1 (cs[i]?)
    | _ => none
  | .call c => match c.callee with
    | .builtin b => match evs t c.args.toList with
      | some as => aBuiltin Θ b c.argTypes as h n0 s
      | none => none
    | _ => none
  | _ => none

end Go.Av
