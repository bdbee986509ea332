/-
  The arguments of the laws as values of the abstract machine. Conditions: none.
-/
import Derived.Test.YtiiogleijmcccaaD0
import Derived.Test.YtiiogleijmcccaaB0
import Derived.Test.YtiiogleijmcccaaRows
namespace Go.Av
open Go.Proofs Go.Proofs.Ytiiogleijmcccaa
open Go.ChangeShapes Go.WideShapes Go.ChangeAt Go.RowKit Go.Deep
set_option maxRecDepth 100000

def I64 (n : Int) : Prop := -9223372036854775808 ≤ n ∧ n < 9223372036854775808

/-- A grammar as it may come in. -/
def Gr.Ok (g : Gr) : Prop := g.Small ∧ I64 g.terms ∧ I64 g.nons ∧ I64 g.start ∧ ∀ p ∈ g.prods, I64 p.left ∧ ∀ s ∈ p.right, I64 s.n

theorem i64_of {n : Int} (h : (Lit.int .i64 n).wf = true) : I64 n := by
  simp only [Lit.wf, Bool.and_eq_true, decide_eq_true_eq, IntKind.min, IntKind.max, IntKind.signed, IntKind.bits, if_true] at h
  unfold I64
  have h2 : (2 : Int) ^ (64 - 1) = 9223372036854775808 := rfl
  rw [h2] at h
  omega

theorem rdInt : Rd pg 3 (fun n : Int => [.int .i64 n]) I64 := (Rd.int Try.underlying3).conv id (fun _ => rfl) fun _ h => i64_of h
theorem rdBool : Rd pg 4 (fun b : Bool => [.bool b]) (fun _ => True) := Rd.bool Try.underlying4

theorem rdSy : Rd pg 46 eSy (fun s => I64 s.n) :=
  (Rd.struct2 Try.underlying46 (by kernel_rfl) rfl rfl (by kernel_rfl) (by kernel_rfl) rdBool rdInt).conv (fun p => (⟨p.1, p.2⟩ : Sy)) (fun _ => rfl) fun _ h => h.2

theorem rdSys : Rd pg 42 (fun l : List Sy => [.ro (l.map eSy)]) (fun l => l.length * 16 ≤ reachBytes ∧ ∀ s ∈ l, I64 s.n) :=
  Rd.slice (sz := 2) (bt := 16) Try.underlying42 (by kernel_rfl) (by kernel_rfl) (by decide) (fun _ => ⟨rfl, rfl⟩) rdSy

theorem rdPr : Rd pg 44 ePr (fun p => I64 p.left ∧ p.right.length * 16 ≤ reachBytes ∧ ∀ s ∈ p.right, I64 s.n) :=
  (Rd.struct2 Try.underlying44 (by kernel_rfl) rfl rfl (by kernel_rfl) (by kernel_rfl) rdInt rdSys).conv (fun p => (⟨p.1, p.2⟩ : Pr)) (fun _ => rfl) fun _ h => h

theorem rdPrs : Rd pg 22 (fun l : List Pr => [.ro (l.map ePr)]) (fun l => l.length * 32 ≤ reachBytes ∧ ∀ p ∈ l, I64 p.left ∧ p.right.length * 16 ≤ reachBytes ∧ ∀ s ∈ p.right, I64 s.n) :=
  Rd.slice (sz := 2) (bt := 32) Try.underlying22 (by kernel_rfl) (by kernel_rfl) (by decide) (fun _ => ⟨rfl, rfl⟩) rdPr

theorem reach_small {n : Nat} {k : Nat} (h : n * k ≤ reachBytes) (hk : 0 < k) : n < 2 ^ 60 := by
  have h1 : n * 1 ≤ n * k := Nat.mul_le_mul_left n hk
  unfold reachBytes at h
  omega

theorem rdGr : Rd pg 24 eGr Gr.Ok :=
  (Rd.struct4 Try.underlying24 (by kernel_rfl) rfl rfl rfl rfl (by kernel_rfl) (by kernel_rfl) (by kernel_rfl) (by kernel_rfl) rdInt rdInt rdInt rdPrs).conv (fun p => (⟨p.1, p.2.1, p.2.2.1, p.2.2.2⟩ : Gr)) (fun _ => rfl)
    fun x ⟨h1, h2, h3, h4, h5⟩ => ⟨⟨reach_small h4 (by decide), fun p hp => reach_small (h5 p hp).2.1 (by decide)⟩, h1, h2, h3, fun p hp => ⟨(h5 p hp).1, (h5 p hp).2.2⟩⟩

theorem rdIns : Rd pg 35 (fun l : List Int => [.ro (l.map eIn)]) (fun l => l.length < 2 ^ 60 ∧ ∀ n ∈ l, I64 n) :=
  (Rd.slice (sz := 1) (bt := 8) (E := fun n : Int => [.int .i64 n]) Try.underlying35 (by kernel_rfl) (by kernel_rfl) (by decide) (fun _ => ⟨rfl, rfl⟩) rdInt).conv id (fun _ => rfl) fun _ h => ⟨reach_small h.1 (by decide), h.2⟩

def eU8 (n : Int) : List AV := [.int .u8 n]
attribute [go_sem] eU8

/-! ### Arguments, by their types -/
section
variable {H : Type} {enc : TypeId × Value → H} {W : World} {base : Nat} {v : Value} {d : DataW H} {p : List MemPlace}

theorem argGr (hv : Value.okWide pg W .any base 24 v) (h : DataW.Trod enc pg W 0 (fun _ => true) true 24 v d p) (hw : ∀ n ∈ d.weights pg 24, n ≤ reachBytes) : ∃ g : Gr, VR W (Old W) noM (.agg (eGr g)) v ∧ g.Ok := by
  obtain ⟨cs, hc, _⟩ := okWide_struct Try.underlying24 hv
  exact rdGr.argS hc h hw

theorem slice_cells {t e : TypeId} (ht : pg.underlying t = some (.slice e)) (hv : Value.okWide pg W .any base t v) : v.cells.toList = [v] := by
  obtain ⟨a, n, m, rfl⟩ := okWide_slice ht hv
  rfl

theorem argIns (hv : Value.okWide pg W .any base 35 v) (h : DataW.Trod enc pg W 0 (fun _ => true) true 35 v d p) (hw : ∀ n ∈ d.weights pg 35, n ≤ reachBytes) :
    ∃ l : List Int, VR W (Old W) noM (.ro (l.map eIn)) v ∧ l.length < 2 ^ 60 ∧ ∀ n ∈ l, I64 n := rdIns.arg1 (slice_cells Try.underlying35 hv) h hw

theorem argInt (hv : Value.okWide pg W .any base 3 v) (h : DataW.Trod enc pg W 0 (fun _ => true) true 3 v d p) : ∃ n : Int, VR W (Old W) noM (.int .i64 n) v ∧ I64 n := by
  obtain ⟨n, rfl, _, _, hn⟩ := open_int Try.underlying3 hv h
  exact ⟨n, .int _ n, i64_of hn⟩

end

theorem ownK : ownKnob Try.prog.godebug = none := by kernel_rfl
theorem laidOut : laidOutB Try.prog = true := by kernel_rfl

end Go.Av
