/-
  How code runs on abstract values. Conditions: none.
-/
import Derived.Test.YtiiogleijmcccaaA2
namespace Go.Av

/-- How code ends. -/
inductive AEx where
  | normal
  | exit (id : Nat)
  | goto (l : Nat)
  | ret

/-- Inside a region: slots, heap, the next free number. -/
structure OS where
  t : Fr
  h : Heap
  x : Nat

inductive Job where
  | code (N : Nat) (c : Code) (t : Fr) (h : Heap) (n : Nat) (e : AEx) (t' : Fr) (h' : Heap) (n' : Nat)
  | scp (N : Nat) (body c : Code) (t : Fr) (h : Heap) (n : Nat) (e : AEx) (t' : Fr) (h' : Heap) (n' : Nat)
  | op (N : Nat) (ops : Array Oper) (n0 i : Nat) (σ : OS) (c : Cls) (σ' : OS)
  | ops (N : Nat) (ops : Array Oper) (n0 : Nat) (l : List Nat) (σ : OS) (cs : List Cls) (σ' : OS)
  | fn (f : FuncId) (args : List AV) (h : Heap) (n : Nat) (res : AV) (h' : Heap) (n' : Nat)

/-- Is the operation carried out? -/
def gd (ops : Array Oper) (t : Fr) (o : Oper) : Option Bool :=
  match o.guard with
  | none => some true
  | some (g, want) => match (ops[g]?).bind (·.dst) with
    | some d => match t d with
      | .bool b => some (b == want)
      | .tup [] => some false
      | _ => none
    | none => some false

mutual
/-- A value with what it leads to in the live blocks laid in; 'fr': may it lead to what is frozen already? -/
def rf (fr : Bool) : Nat → Heap → AV → Option AV
  | 0, _, _ => none
  | d + 1, h, a => match a with
    | .any => some .any
    | .bool b => some (.bool b)
    | .int k n => some (.int k n)
    | .str s => some (.str s)
    | .nilp => some .nilp
    | .nilf => some .nilf
    | .nili => some .nili
    | .nils => some (.ro [])
    | .nilm => some .nilm
    | .rp cs off => if fr then some (.rp cs off) else none
    | .ro es => if fr ∨ es = [] then some (.ro es) else none
    | .ptr b i off => match h b with
      | some (.cells es) => match es[i]? with
        | some e => match rfs fr d h e with
          | some e' => some (.rp e' off)
          | none => none
        | none => none
      | _ => none
    | .sl b off len _ => match h b with
      | some (.cells es) => if off + len ≤ es.length then match rfe fr d h ((es.drop off).take len) with
          | some es' => some (.ro es')
          | none => none
        else none
      | _ => none
    | .fn f cs => match rfs fr d h cs with
      | some cs' => some (.fn f cs')
      | none => none
    | .agg cs => match rfs fr d h cs with
      | some cs' => some (.agg cs')
      | none => none
    | .tup cs => match rfs fr d h cs with
      | some cs' => some (.tup cs')
      | none => none
    | .mp _ => none
def rfs (fr : Bool) : Nat → Heap → List AV → Option (List AV)
  | 0, _, _ => none
  | d + 1, h, l => l.mapM (rf fr d h)
def rfe (fr : Bool) : Nat → Heap → List (List AV) → Option (List (List AV))
  | 0, _, _ => none
  | d + 1, h, l => l.mapM (rfs fr d h)
end

def h0 : Heap := fun _ => none

def ares1 (t : Fr) (h : Heap) : ResultVar → Option AV
  | .tmp x => some (t x)
  | .cell _ _ => none

def aresL (t : Fr) (h : Heap) : List ResultVar → Option (List AV)
  | [] => some []
  | r :: rs => match ares1 t h r, aresL t h rs with
    | some a, some as => some (a :: as)
    | _, _ => none

def ares (rs : Array ResultVar) (t : Fr) (h : Heap) : Option AV :=
  match aresL t h rs.toList with
  | some [a] => some a
  | some as => some (.tup as)
  | none => none

def preds (o : Oper) : List Nat := o.after.toList.filterMap fun e => if Region.binds .any e then some e.on else none

def ancOf (acc : List Nat) (o : Oper) : Nat := (preds o).foldl (fun s p => s ||| 2 ^ p ||| acc.getD p 0) 0

def ancL : List Oper → List Nat → List Nat
  | [], acc => acc
  | o :: os, acc => ancL os (acc ++ [ancOf acc o])

def conflict (c d : Cls) : Bool :=
  (c == .W && d != .P) || (d == .W && c != .P) || (c == .F && (d == .Q || d == .F)) || (d == .F && (c == .Q || c == .F))

/-- May a region's operations come in any order that its edges allow? -/
def drawOK (ops : Array Oper) (cs : List Cls) : Bool :=
  let l := ops.toList
  let A := ancL l []
  Region.noSelect ops && (List.range l.length).all fun j => match l[j]? with
    | none => true
    | some oj => (preds oj).all (· < j) && (List.range j).all fun i => match l[i]? with
      | none => true
      | some oi => (A.getD j 0).testBit i || (oi.apart ops oj && !conflict (cs.getD i .W) (cs.getD j .W))

def fr0 (args : List AV) : Fr := fun x => args.getD x .any

inductive Big (P : Program) (Θ : Tab) : Job → Prop
  -- an operation
  | skip {N ops n0 i t h x o} (ho : ops[i]? = some o) (hg : gd ops t o = some false) (hd : inN N o.dst = true) :
      Big P Θ (.op N ops n0 i ⟨t, h, x⟩ .P ⟨put t o.dst (.tup []), h, x⟩)
  | plain {N ops n0 i t h x o c v u} (ho : ops[i]? = some o) (hg : gd ops t o = some true) (hd : inN N o.dst = true)
      (hop : aop Θ o.op t h n0 (n0 + i) = some (c, v, u)) :
      Big P Θ (.op N ops n0 i ⟨t, h, x⟩ c ⟨put t o.dst v, upds h u, x⟩)
  | callH {N ops n0 i t h x o cl f g caps as res h' x'} (ho : ops[i]? = some o) (hg : gd ops t o = some true) (hd : inN N o.dst = true)
      (hop : o.op = .call cl) (hc : cl.callee = .value f) (hf : ev t f = some (.fn g caps)) (ha : evs t cl.args.toList = some as)
      (hb : Big P Θ (.fn g (as ++ caps) h x res h' x')) :
      Big P Θ (.op N ops n0 i ⟨t, h, x⟩ .W ⟨put t o.dst res, h', x'⟩)
  | callP {N ops n0 i t h x o cl f g caps as as' res res' h1 x1 d d'} (live : Bool) (ho : ops[i]? = some o) (hg : gd ops t o = some true) (hd : inN N o.dst = true)
      (hop : o.op = .call cl) (hc : cl.callee = .value f) (hf : ev t f = some (.fn g caps)) (ha : evs t cl.args.toList = some as)
      (hr : rfs true d (if live then h else h0) (as ++ caps) = some as') (hb : Big P Θ (.fn g as' h0 0 res h1 x1))
      (hr' : rf (!live) d' h1 res = some res') :
      Big P Θ (.op N ops n0 i ⟨t, h, x⟩ (if live then .Q else .L) ⟨put t o.dst res', h, x⟩)
  | callT {N ops n0 i t h x o cl f g caps as as' b len sz es es' h1 x1 d d'} (live : Bool) (ho : ops[i]? = some o) (hg : gd ops t o = some true) (hd : inN N o.dst = true)
      (hop : o.op = .call cl) (hc : cl.callee = .value f) (hf : ev t f = some (.fn g caps)) (ha : evs t cl.args.toList = some as)
      (hr : rfs true d (if live then h else h0) (as ++ caps) = some as') (hb : Big P Θ (.fn g as' h0 0 (.sl b 0 len sz) h1 x1))
      (hh : h1 b = some (.cells es)) (hl : len = es.length) (hr' : rfe (!live) d' (upd h1 b none) es = some es') :
      Big P Θ (.op N ops n0 i ⟨t, h, x⟩ (if live then .Q else .L) ⟨put t o.dst (.sl (n0 + i) 0 len sz), upd h (n0 + i) (some (.cells es')), x⟩)
  | nil {N ops n0 σ} : Big P Θ (.ops N ops n0 [] σ [] σ)
  | cons {N ops n0 i l σ c σ1 cs σ2} (h1 : Big P Θ (.op N ops n0 i σ c σ1)) (h2 : Big P Θ (.ops N ops n0 l σ1 cs σ2)) :
      Big P Θ (.ops N ops n0 (i :: l) σ (c :: cs) σ2)
  -- code
  | cskip {N t h n} : Big P Θ (.code N .skip t h n .normal t h n)
  | label {N l t h n} : Big P Θ (.code N (.label l) t h n .normal t h n)
  | exit {N id t h n} : Big P Θ (.code N (.exit id) t h n (.exit id) t h n)
  | goto {N l t h n} : Big P Θ (.code N (.goto l) t h n (.goto l) t h n)
  | ret {N t h n} : Big P Θ (.code N .ret t h n .ret t h n)
  | region {N id ops draw t h n cs t' h' n'} (hb : Big P Θ (.ops N ops n (List.range ops.size) ⟨t, h, n + ops.size⟩ cs ⟨t', h', n'⟩))
      (hd : draw = true → drawOK ops cs = true) : Big P Θ (.code N (.region id ops draw) t h n .normal t' h' n')
  | seq {N a b t h n t1 h1 n1 e t' h' n'} (ha : Big P Θ (.code N a t h n .normal t1 h1 n1)) (hb : Big P Θ (.code N b t1 h1 n1 e t' h' n')) :
      Big P Θ (.code N (.seq a b) t h n e t' h' n')
  | seqx {N a b t h n e t' h' n'} (he : e ≠ .normal) (ha : Big P Θ (.code N a t h n e t' h' n')) : Big P Θ (.code N (.seq a b) t h n e t' h' n')
  | condT {N c a b t h n e t' h' n'} (hc : ev t c = some (.bool true)) (ha : Big P Θ (.code N a t h n e t' h' n')) : Big P Θ (.code N (.cond c a b) t h n e t' h' n')
  | condF {N c a b t h n e t' h' n'} (hc : ev t c = some (.bool false)) (hb : Big P Θ (.code N b t h n e t' h' n')) : Big P Θ (.code N (.cond c a b) t h n e t' h' n')
  | block {N id c t h n t' h' n'} (hc : Big P Θ (.code N c t h n .normal t' h' n')) : Big P Θ (.code N (.block id c) t h n .normal t' h' n')
  | blockX {N id c t h n t' h' n'} (hc : Big P Θ (.code N c t h n (.exit id) t' h' n')) : Big P Θ (.code N (.block id c) t h n .normal t' h' n')
  | blockE {N id c t h n e t' h' n'} (he : e ≠ .normal) (he' : e ≠ .exit id) (hc : Big P Θ (.code N c t h n e t' h' n')) : Big P Θ (.code N (.block id c) t h n e t' h' n')
  | loop {N c t h n t1 h1 n1 e t' h' n'} (hc : Big P Θ (.code N c t h n .normal t1 h1 n1)) (hl : Big P Θ (.code N (.loop c) t1 h1 n1 e t' h' n')) :
      Big P Θ (.code N (.loop c) t h n e t' h' n')
  | loopE {N c t h n e t' h' n'} (he : e ≠ .normal) (hc : Big P Θ (.code N c t h n e t' h' n')) : Big P Θ (.code N (.loop c) t h n e t' h' n')
  | scope {N c t h n e t' h' n'} (hc : Big P Θ (.scp N c c t h n e t' h' n')) : Big P Θ (.code N (.scope c) t h n e t' h' n')
  | scpD {N body c t h n e t' h' n'} (he : ∀ l, e ≠ .goto l) (hc : Big P Θ (.code N c t h n e t' h' n')) : Big P Θ (.scp N body c t h n e t' h' n')
  | scpG {N body c rest l t h n t1 h1 n1 e t' h' n'} (hc : Big P Θ (.code N c t h n (.goto l) t1 h1 n1)) (hf : findLabel body l = some rest)
      (hr : Big P Θ (.scp N body rest t1 h1 n1 e t' h' n')) : Big P Θ (.scp N body c t h n e t' h' n')
  | forget {N c t h n t1 h1 e t' h' n'} (ht : ∀ x, t1 x = t x ∨ t1 x = .any) (hh : ∀ b, h1 b = h b ∨ h1 b = none) (hc : Big P Θ (.code N c t1 h1 n e t' h' n')) :
      Big P Θ (.code N c t h n e t' h' n')
  -- a function
  | fn {f fn c args h n e t' h' n' res} (hf : P.funcs[f]? = some fn) (hb : fn.body = some c) (hN : args.length ≤ fn.ntmps) (hn : fn.name ≠ "runtime.NumGoroutine")
      (hc : Big P Θ (.code fn.ntmps c (fr0 args) h n e t' h' n')) (he : e = .normal ∨ e = .ret) (hr : ares fn.results t' h' = some res) :
      Big P Θ (.fn f args h n res h' n')

end Go.Av
