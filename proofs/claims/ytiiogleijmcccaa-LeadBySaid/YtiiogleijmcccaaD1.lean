/-
  The arguments of the laws as values of the abstract machine. Conditions: none.
-/
import Derived.Test.YtiiogleijmcccaaD0
import Derived.Test.YtiiogleijmcccaaB0
import Derived.Test.YtiiogleijmcccaaRows
namespace Go.Av
open Go.Proofs Go.Proofs.Ytiiogleijmcccaa
open Go.ChangeShapes Go.WideShapes Go.ChangeAt Go.RowKit Go.Deep
set_option maxRecDepth 100000

def I64 (n : Int) : Prop := -9223372036854775808 ≤ n ∧ n < 9223372036854775808

/-- A grammar as it may come in. -/
def Gr.Ok (g : Gr) : Prop := g.Small ∧ I64 g.terms ∧ I64 g.nons ∧ I64 g.start ∧ ∀ p ∈ g.prods, I64 p.left ∧ ∀ s ∈ p.right, I64 s.n

theorem i64_of {n : Int} (h : (Lit.int .i64 n).wf = true) : I64 n := by
  simp only [Lit.wf, Bool.and_eq_true, decide_eq_true_eq, IntKind.min, IntKind.max, IntKind.signed, IntKind.bits, if_true] at h
  unfold I64
  have h2 : (2 : Int) ^ (64 - 1) = 9223372036854775808 := rfl
  rw [h2] at h
  omega

theorem u8_of {n : Int} (h : (Lit.int .u8 n).wf = true) : 0 ≤ n ∧ n < 256 := by
  simp only [Lit.wf, Bool.and_eq_true, decide_eq_true_eq, IntKind.min, IntKind.max, IntKind.signed, IntKind.bits] at h
  simp at h
  omega

theorem rdInt : Rd pg 3 (fun n : Int => [.int .i64 n]) I64 := (Rd.int Try.underlying3).conv id (fun _ => rfl) fun _ h => i64_of h
theorem rdU8 : Rd pg 5 (fun n : Int => [.int .u8 n]) (fun n => 0 ≤ n ∧ n < 256) := (Rd.int Try.underlying5).conv id (fun _ => rfl) fun _ h => u8_of h
theorem rdBool : Rd pg 4 (fun b : Bool => [.bool b]) (fun _ => True) := Rd.bool Try.underlying4

theorem rdSy : Rd pg 46 eSy (fun s => I64 s.n) :=
  (Rd.struct2 Try.underlying46 (by kernel_rfl) rfl rfl (by kernel_rfl) (by kernel_rfl) rdBool rdInt).conv (fun p => (⟨p.1, p.2⟩ : Sy)) (fun _ => rfl) fun _ h => h.2

theorem rdSys : Rd pg 42 (fun l : List Sy => [.ro (l.map eSy)]) (fun l => l.length * 16 ≤ reachBytes ∧ ∀ s ∈ l, I64 s.n) :=
  Rd.slice (sz := 2) (bt := 16) Try.underlying42 (by kernel_rfl) (by kernel_rfl) (by decide) (fun _ => ⟨rfl, rfl⟩) rdSy

theorem rdPr : Rd pg 44 ePr (fun p => I64 p.left ∧ p.right.length * 16 ≤ reachBytes ∧ ∀ s ∈ p.right, I64 s.n) :=
  (Rd.struct2 Try.underlying44 (by kernel_rfl) rfl rfl (by kernel_rfl) (by kernel_rfl) rdInt rdSys).conv (fun p => (⟨p.1, p.2⟩ : Pr)) (fun _ => rfl) fun _ h => h

theorem rdPrs : Rd pg 22 (fun l : List Pr => [.ro (l.map ePr)]) (fun l => l.length * 32 ≤ reachBytes ∧ ∀ p ∈ l, I64 p.left ∧ p.right.length * 16 ≤ reachBytes ∧ ∀ s ∈ p.right, I64 s.n) :=
  Rd.slice (sz := 2) (bt := 32) Try.underlying22 (by kernel_rfl) (by kernel_rfl) (by decide) (fun _ => ⟨rfl, rfl⟩) rdPr

theorem reach_small {n : Nat} {k : Nat} (h : n * k ≤ reachBytes) (hk : 0 < k) : n < 2 ^ 60 := by
  have h1 : n * 1 ≤ n * k := Nat.mul_le_mul_left n hk
  unfold reachBytes at h
  omega

theorem rdGr : Rd pg 24 eGr Gr.Ok :=
  (Rd.struct4 Try.underlying24 (by kernel_rfl) rfl rfl rfl rfl (by kernel_rfl) (by kernel_rfl) (by kernel_rfl) (by kernel_rfl) rdInt rdInt rdInt rdPrs).conv (fun p => (⟨p.1, p.2.1, p.2.2.1, p.2.2.2⟩ : Gr)) (fun _ => rfl)
    fun x ⟨h1, h2, h3, h4, h5⟩ => ⟨⟨reach_small h4 (by decide), fun p hp => reach_small (h5 p hp).2.1 (by decide)⟩, h1, h2, h3, fun p hp => ⟨(h5 p hp).1, (h5 p hp).2.2⟩⟩

theorem rdFc : Rd pg 33 eFc (fun f => I64 f.1 ∧ I64 f.2) :=
  (Rd.struct2 Try.underlying33 (by kernel_rfl) rfl rfl (by kernel_rfl) (by kernel_rfl) rdInt rdInt).conv (fun p => ((p.1, p.2) : Fc)) (fun _ => rfl) fun _ h => h

theorem rdFcs : Rd pg 25 (fun l : List Fc => [.ro (l.map eFc)]) (fun l => l.length < 2 ^ 60 ∧ ∀ f ∈ l, I64 f.1 ∧ I64 f.2) :=
  (Rd.slice (sz := 2) (bt := 16) Try.underlying25 (by kernel_rfl) (by kernel_rfl) (by decide) (fun _ => ⟨rfl, rfl⟩) rdFc).conv id (fun _ => rfl) fun _ h => ⟨reach_small h.1 (by decide), h.2⟩

theorem rdIns : Rd pg 35 (fun l : List Int => [.ro (l.map eIn)]) (fun l => l.length < 2 ^ 60 ∧ ∀ n ∈ l, I64 n) :=
  (Rd.slice (sz := 1) (bt := 8) (E := fun n : Int => [.int .i64 n]) Try.underlying35 (by kernel_rfl) (by kernel_rfl) (by decide) (fun _ => ⟨rfl, rfl⟩) rdInt).conv id (fun _ => rfl) fun _ h => ⟨reach_small h.1 (by decide), h.2⟩

def eU8 (n : Int) : List AV := [.int .u8 n]
attribute [go_sem] eU8

theorem rdU8s : Rd pg 34 (fun l : List Int => [.ro (l.map eU8)]) (fun l => l.length < 2 ^ 60 ∧ ∀ n ∈ l, 0 ≤ n ∧ n < 256) :=
  (Rd.slice (sz := 1) (bt := 1) (E := fun n : Int => [.int .u8 n]) Try.underlying34 (by kernel_rfl) (by kernel_rfl) (by decide) (fun _ => ⟨rfl, rfl⟩) rdU8).conv id (fun _ => rfl) fun _ h => ⟨reach_small h.1 (by decide), h.2⟩

theorem rdSys' : Rd pg 42 (fun l : List Sy => [.ro (l.map eSy)]) (fun l => l.length < 2 ^ 60 ∧ ∀ s ∈ l, I64 s.n) := rdSys.conv id (fun _ => rfl) fun _ h => ⟨reach_small h.1 (by decide), h.2⟩

/-! ### Arguments, by their types -/
section
variable {H : Type} {enc : TypeId × Value → H} {W : World} {base : Nat} {v : Value} {d : DataW H} {p : List MemPlace}

theorem argGr (hv : Value.okWide pg W .any base 24 v) (h : DataW.Trod enc pg W 0 (fun _ => true) true 24 v d p) (hw : ∀ n ∈ d.weights pg 24, n ≤ reachBytes) : ∃ g : Gr, VR W (Old W) noM (.agg (eGr g)) v ∧ g.Ok := by
  obtain ⟨cs, hc, _⟩ := okWide_struct Try.underlying24 hv
  exact rdGr.argS hc h hw

theorem slice_cells {t e : TypeId} (ht : pg.underlying t = some (.slice e)) (hv : Value.okWide pg W .any base t v) : v.cells.toList = [v] := by
  obtain ⟨a, n, m, rfl⟩ := okWide_slice ht hv
  rfl

theorem argFcs (hv : Value.okWide pg W .any base 25 v) (h : DataW.Trod enc pg W 0 (fun _ => true) true 25 v d p) (hw : ∀ n ∈ d.weights pg 25, n ≤ reachBytes) :
    ∃ l : List Fc, VR W (Old W) noM (.ro (l.map eFc)) v ∧ l.length < 2 ^ 60 ∧ ∀ f ∈ l, I64 f.1 ∧ I64 f.2 := rdFcs.arg1 (slice_cells Try.underlying25 hv) h hw

theorem argIns (hv : Value.okWide pg W .any base 35 v) (h : DataW.Trod enc pg W 0 (fun _ => true) true 35 v d p) (hw : ∀ n ∈ d.weights pg 35, n ≤ reachBytes) :
    ∃ l : List Int, VR W (Old W) noM (.ro (l.map eIn)) v ∧ l.length < 2 ^ 60 ∧ ∀ n ∈ l, I64 n := rdIns.arg1 (slice_cells Try.underlying35 hv) h hw

theorem argU8s (hv : Value.okWide pg W .any base 34 v) (h : DataW.Trod enc pg W 0 (fun _ => true) true 34 v d p) (hw : ∀ n ∈ d.weights pg 34, n ≤ reachBytes) :
    ∃ l : List Int, VR W (Old W) noM (.ro (l.map eU8)) v ∧ l.length < 2 ^ 60 ∧ ∀ n ∈ l, 0 ≤ n ∧ n < 256 := rdU8s.arg1 (slice_cells Try.underlying34 hv) h hw

theorem argSys (hv : Value.okWide pg W .any base 42 v) (h : DataW.Trod enc pg W 0 (fun _ => true) true 42 v d p) (hw : ∀ n ∈ d.weights pg 42, n ≤ reachBytes) :
    ∃ l : List Sy, VR W (Old W) noM (.ro (l.map eSy)) v ∧ l.length < 2 ^ 60 ∧ ∀ s ∈ l, I64 s.n := rdSys'.arg1 (slice_cells Try.underlying42 hv) h hw

theorem argBool (hv : Value.okWide pg W .any base 4 v) : ∃ b : Bool, VR W (Old W) noM (.bool b) v := by
  obtain ⟨b, rfl⟩ := okWide_bool Try.underlying4 hv
  exact ⟨b, .bool b⟩

theorem argInt (hv : Value.okWide pg W .any base 3 v) (h : DataW.Trod enc pg W 0 (fun _ => true) true 3 v d p) : ∃ n : Int, VR W (Old W) noM (.int .i64 n) v ∧ I64 n := by
  obtain ⟨n, rfl, _, _, hn⟩ := open_int Try.underlying3 hv h
  exact ⟨n, .int _ n, i64_of hn⟩

theorem argU8 (hv : Value.okWide pg W .any base 5 v) (h : DataW.Trod enc pg W 0 (fun _ => true) true 5 v d p) : ∃ n : Int, VR W (Old W) noM (.int .u8 n) v ∧ 0 ≤ n ∧ n < 256 := by
  obtain ⟨n, rfl, _, _, hn⟩ := open_int Try.underlying5 hv h
  exact ⟨n, .int _ n, u8_of hn⟩
end

theorem ownK : ownKnob Try.prog.godebug = none := by kernel_rfl
theorem laidOut : laidOutB Try.prog = true := by kernel_rfl

end Go.Av
