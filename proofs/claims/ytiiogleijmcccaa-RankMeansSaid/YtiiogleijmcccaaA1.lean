/-
  Abstract values for Go's memory, and what it means that one stands for a value of the model. Conditions: none.
-/
import Derived.Test.YtiiogleijmcccaaA0
import Derived.Orders
import Derived.Laws.World
namespace Go.Av

/-- An abstract value. 'ro', 'rp': a slice, a pointer into memory that nobody writes any more, with all its contents; 'sl', 'ptr', 'mp': into a live block, by its number. -/
inductive AV where
  | any
  | bool (b : Bool)
  | int (k : IntKind) (n : Int)
  | str (s : ByteArray)
  | nilp | nilf | nili | nils | nilm
  | ptr (b i off : Nat)
  | rp (cells : List AV) (off : Nat)
  | sl (b off len sz : Nat)
  | ro (es : List (List AV))
  | fn (f : FuncId) (caps : List AV)
  | agg (cs : List AV)
  | tup (cs : List AV)
  | mp (b : Nat)
  deriving Inhabited

/-- What a live block holds: elements, each a list of cells; or the entries of a map. -/
inductive AO where
  | cells (es : List (List AV))
  | map (es : List (AV × AV))
  deriving Inhabited

/-- Where a live block lies: the model's block, the first cell, the cells of an element, how many elements, and how many there is room for. -/
structure Pl where
  blk : Nat
  off : Nat
  sz : Nat
  ext : Nat
  room : Nat

abbrev Pm := Nat → Option Pl
abbrev Heap := Nat → Option AO
abbrev Fr := Nat → AV

/-- One cell, and known. -/
def scal : AV → Bool
  | .any | .agg _ | .tup _ => false
  | _ => true

/-- Cell j of element i. -/
def getc (es : List (List AV)) (i j : Nat) : Option AV := (es[i]?).bind (·[j]?)

/-- 'a' stands for 'v', in world 'w'; S: the blocks that stay as they are; m: where the live blocks lie. -/
inductive VR (w : World) (S : Nat → Prop) : Pm → AV → Value → Prop
  | any {m : Pm} (v : Value) : VR w S m .any v
  | bool {m : Pm} (b : Bool) : VR w S m (.bool b) (.bool b)
  | int {m : Pm} (k : IntKind) (n : Int) : VR w S m (.int k n) (.int k n)
  | str {m : Pm} (s : ByteArray) : VR w S m (.str s) (.string s)
  | nilp {m : Pm} : VR w S m .nilp (.pointer none)
  | nilf {m : Pm} : VR w S m .nilf .nilFunc
  | nili {m : Pm} : VR w S m .nili .nilIface
  | nils {m : Pm} (a : Option Addr) : VR w S m .nils (.slice a 0 0)
  | nilm {m : Pm} : VR w S m .nilm (.map none)
  | ptr {m : Pm} (b i off : Nat) (p : Pl) (h : m b = some p) : VR w S m (.ptr b i off) (.pointer (some ⟨p.blk, p.off + i * p.sz + off, none⟩))
  | rp {m : Pm} (cells : List AV) (off blk o : Nat) (us : Nat → Value) (hS : S blk)
      (hc : ∀ j c, cells[j]? = some c → w.cell? ⟨blk, o + j, none⟩ = some (us j))
      (hr : ∀ j c, cells[j]? = some c → VR w S (fun _ => none) c (us j)) : VR w S m (.rp cells off) (.pointer (some ⟨blk, o + off, none⟩))
  | sl {m : Pm} (b off len cap : Nat) (p : Pl) (h : m b = some p) (h1 : p.ext ≤ off + cap) (h2 : off + cap ≤ p.room) (h3 : len ≤ cap) (h4 : off + len ≤ p.ext) :
      VR w S m (.sl b off len p.sz) (.slice (some ⟨p.blk, p.off + off * p.sz, none⟩) len cap)
  | ron {m : Pm} (a : Option Addr) (cap : Nat) : VR w S m (.ro []) (.slice a 0 cap)
  | ro {m : Pm} (es : List (List AV)) (blk o sz cap : Nat) (us : Nat → Nat → Value) (hS : S blk)
      (hz : ∀ (i : Nat) (e : List AV), es[i]? = some e → e.length = sz ∧ e.all scal = true) (hcap : es.length ≤ cap)
      (hc : ∀ i j c, getc es i j = some c → w.cell? ⟨blk, o + i * sz + j, none⟩ = some (us i j))
      (hr : ∀ i j c, getc es i j = some c → VR w S (fun _ => none) c (us i j)) : VR w S m (.ro es) (.slice (some ⟨blk, o, none⟩) es.length cap)
  | fn {m : Pm} (f : FuncId) (caps : List AV) (vs : List Value) (hl : vs.length = caps.length)
      (hr : ∀ (i : Nat) (c : AV) (v : Value), caps[i]? = some c → vs[i]? = some v → VR w S m c v) : VR w S m (.fn f caps) (.func (.func f) #[] ⟨vs⟩)
  | agg {m : Pm} (cs : List AV) (vs : List Value) (hl : vs.length = cs.length)
      (hr : ∀ (i : Nat) (c : AV) (v : Value), cs[i]? = some c → vs[i]? = some v → VR w S m c v) : VR w S m (.agg cs) (.agg ⟨vs⟩)
  | tup {m : Pm} (cs : List AV) (vs : List Value) (hl : vs.length = cs.length)
      (hr : ∀ (i : Nat) (c : AV) (v : Value), cs[i]? = some c → vs[i]? = some v → VR w S m c v) : VR w S m (.tup cs) (.tuple ⟨vs⟩)
  | mp {m : Pm} (b : Nat) (p : Pl) (h : m b = some p) : VR w S m (.mp b) (.map (some p.blk))

/-- The world w' is w but for what is outside of S, and new blocks. -/
structure Ext (S : Nat → Prop) (w w' : World) : Prop where
  os : w'.os = w.os
  tape : w'.tape = w.tape
  output : w'.output = w.output
  size : w.heap.size ≤ w'.heap.size
  same : ∀ k, S k → w'.heap[k]? = w.heap[k]?

theorem Ext.refl (S : Nat → Prop) (w : World) : Ext S w w := ⟨rfl, rfl, rfl, Nat.le_refl _, fun _ _ => rfl⟩

theorem Ext.trans {S S' : Nat → Prop} {a b c : World} (h : Ext S a b) (k : Ext S' b c) (hs : ∀ i, S i → S' i) : Ext S a c :=
  ⟨k.os.trans h.os, k.tape.trans h.tape, k.output.trans h.output, Nat.le_trans h.size k.size, fun i hi => (k.same i (hs i hi)).trans (h.same i hi)⟩

theorem Ext.mono {S S' : Nat → Prop} {w w' : World} (h : Ext S' w w') (hs : ∀ i, S i → S' i) : Ext S w w' :=
  ⟨h.os, h.tape, h.output, h.size, fun i hi => h.same i (hs i hi)⟩

theorem cell?_of_heap {w w' : World} {a : Addr} (h : w'.heap[a.block]? = w.heap[a.block]?) : w'.cell? a = w.cell? a := by
  unfold World.cell?; rw [h]

theorem Ext.cell {S : Nat → Prop} {w w' : World} (h : Ext S w w') {a : Addr} (ha : S a.block) : w'.cell? a = w.cell? a :=
  cell?_of_heap (h.same _ ha)

/-- A value stands for what it stood for, where nothing that stays has changed, and more stays. -/
theorem VR.mono {w w' : World} {S S' : Nat → Prop} {m m' : Pm} {a : AV} {v : Value} (h : VR w S m a v)
    (he : Ext S w w') (hs : ∀ i, S i → S' i) (hm : ∀ b p, m b = some p → m' b = some p) : VR w' S' m' a v := by
  induction h generalizing m' with
  | any v => exact .any v
  | bool b => exact .bool b
  | int k n => exact .int k n
  | str s => exact .str s
  | nilp => exact .nilp
  | nilf => exact .nilf
  | nili => exact .nili
  | nils a => exact .nils a
  | nilm => exact .nilm
  | ptr b i off p h => exact .ptr b i off p (hm _ _ h)
  | rp cells off blk o us hS hc hr ih =>
    exact .rp cells off blk o us (hs _ hS) (fun j c hj => by rw [he.cell hS]; exact hc j c hj) (fun j c hj => ih j c hj (fun _ _ h => h))
  | sl b off len cap p h h1 h2 h3 h4 => exact .sl b off len cap p (hm _ _ h) h1 h2 h3 h4
  | ron a cap => exact .ron a cap
  | ro es blk o sz cap us hS hz hcap hc hr ih =>
    exact .ro es blk o sz cap us (hs _ hS) hz hcap (fun i j c hj => by rw [he.cell hS]; exact hc i j c hj) (fun i j c hj => ih i j c hj (fun _ _ h => h))
  | fn f caps vs hl hr ih => exact .fn f caps vs hl (fun i c v h1 h2 => ih i c v h1 h2 hm)
  | agg cs vs hl hr ih => exact .agg cs vs hl (fun i c v h1 h2 => ih i c v h1 h2 hm)
  | tup cs vs hl hr ih => exact .tup cs vs hl (fun i c v h1 h2 => ih i c v h1 h2 hm)
  | mp b p h => exact .mp b p (hm _ _ h)

/-- What leads to no live block. -/
theorem VR.up {w : World} {S : Nat → Prop} {m : Pm} {a : AV} {v : Value} (h : VR w S (fun _ => none) a v) : VR w S m a v :=
  h.mono (Ext.refl _ _) (fun _ h => h) (fun _ _ h => by cases h)

/-- What a live block holds, in the world. -/
def CR (w : World) (S : Nat → Prop) (m : Pm) (p : Pl) : AO → Prop
  | .cells es => ∃ arr e, w.heap[p.blk]? = some (.cells arr e (0, 0)) ∧ es.length = p.ext ∧ p.ext ≤ p.room ∧ p.off + p.room * p.sz ≤ arr.size ∧
      (∀ (i : Nat) (l : List AV), es[i]? = some l → l.length = p.sz ∧ l.all scal = true) ∧
      ∀ i j c, getc es i j = some c → ∃ v, arr[p.off + i * p.sz + j]? = some v ∧ VR w S m c v
  | .map es => ∃ entries clock, w.heap[p.blk]? = some (.map entries clock) ∧ entries.size = es.length ∧
      ∀ (i : Nat) (k x : AV) (e : MapEntry), es[i]? = some (k, x) → entries[i]? = some e → VR w S m k e.key ∧ VR w S m x e.val

theorem CR.mono {w w' : World} {S S' : Nat → Prop} {m m' : Pm} {p : Pl} {o : AO} (h : CR w S m p o)
    (he : Ext S w w') (hs : ∀ i, S i → S' i) (hm : ∀ b p, m b = some p → m' b = some p) (hb : w'.heap[p.blk]? = w.heap[p.blk]?) : CR w' S' m' p o := by
  cases o with
  | cells es =>
    obtain ⟨arr, e, h1, h2, h2', h3, h4, h5⟩ := h
    refine ⟨arr, e, hb.trans h1, h2, h2', h3, h4, fun i j c hc => ?_⟩
    obtain ⟨v, hv, hr⟩ := h5 i j c hc
    exact ⟨v, hv, hr.mono he hs hm⟩
  | map es =>
    obtain ⟨en, cl, h1, h2, h3⟩ := h
    refine ⟨en, cl, hb.trans h1, h2, fun i k x e h h' => ?_⟩
    obtain ⟨ha, hb⟩ := h3 i k x e h h'
    exact ⟨ha.mono he hs hm, hb.mono he hs hm⟩

/-- The abstract heap g stands for the world's memory. F: further blocks that may not be written. -/
structure Rel (w : World) (S F : Nat → Prop) (m : Pm) (g : Heap) : Prop where
  content : ∀ b o p, g b = some o → m b = some p → CR w S m p o
  disj : ∀ b₁ b₂ o₁ o₂ p₁ p₂, g b₁ = some o₁ → g b₂ = some o₂ → m b₁ = some p₁ → m b₂ = some p₂ → b₁ ≠ b₂ → p₁.blk ≠ p₂.blk
  apart : ∀ b o p, g b = some o → m b = some p → ¬ S p.blk ∧ ¬ F p.blk
  inS : ∀ k, S k → k < w.heap.size
  inF : ∀ k, F k → k < w.heap.size
  inm : ∀ b p, m b = some p → p.blk < w.heap.size

/-- The frame's slots: N of them. -/
def TR (w : World) (S : Nat → Prop) (m : Pm) (N : Nat) (t : Fr) (a : Act) : Prop :=
  a.tmps.size = N ∧ ∀ x, VR w S m (t x) (a.tmps.getD x undef)

theorem TR.mono {w w' : World} {S S' : Nat → Prop} {m m' : Pm} {N : Nat} {t : Fr} {a : Act} (h : TR w S m N t a)
    (he : Ext S w w') (hs : ∀ i, S i → S' i) (hm : ∀ b p, m b = some p → m' b = some p) : TR w' S' m' N t a :=
  ⟨h.1, fun x => (h.2 x).mono he hs hm⟩

def put (t : Fr) (d : Option Nat) (v : AV) : Fr :=
  match d with
  | some d => fun x => if x = d then v else t x
  | none => t

def inN (N : Nat) (d : Option Nat) : Bool :=
  match d with
  | some d => d < N
  | none => true

/-- One slot is written. -/
theorem getD_put {a : Act} {N : Nat} (hs : a.tmps.size = N) {d : Option Nat} (hd : inN N d = true) (u : Value) (x : Nat) :
    (a.put d u).tmps.getD x undef = if d = some x then u else a.tmps.getD x undef := by
  cases d with
  | none => simp [Act.put]
  | some d =>
    simp only [inN, decide_eq_true_eq] at hd
    simp only [Act.put, Array.getD_eq_getD_getElem?, Option.some.injEq]
    by_cases hx : d = x
    · subst hx
      have : d < a.tmps.size := by omega
      simp [this]
    · rw [if_neg hx, Array.getElem?_setIfInBounds_ne hx]

theorem TR.put {w : World} {S : Nat → Prop} {m : Pm} {N : Nat} {t : Fr} {a : Act} (h : TR w S m N t a) {d : Option Nat} {v : AV} {u : Value} (hd : inN N d = true)
    (hv : VR w S m v u) : TR w S m N (put t d v) (a.put d u) := by
  refine ⟨by cases d <;> simpa [Act.put] using h.1, fun x => ?_⟩
  rw [getD_put h.1 hd]
  cases d with
  | none => simpa [Av.put] using h.2 x
  | some d =>
    by_cases hx : d = x
    · subst hx; simpa [Av.put] using hv
    · have hx' : ¬ x = d := fun e => hx e.symm
      simpa [Av.put, hx, hx'] using h.2 x

end Go.Av
