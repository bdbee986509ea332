/-
  The types' facts; how the data stand as values. Conditions: none.
-/
import Derived.Test.YtiiogleijmcccaaAB
import Derived.Test.YtiiogleijmcccaaProg
namespace Go.Av
open Go.Proofs

noncomputable abbrev pg : Program := Go.Proofs.Try.prog
noncomputable abbrev Tq : Tab := mkTI Go.Proofs.Try.prog

theorem th2 : Tq 2 = some ⟨1, false, .int .i64, [.int .i64 0], none⟩ := by kernel_rfl
theorem th3 : Tq 3 = some ⟨1, false, .int .i64, [.int .i64 0], none⟩ := by kernel_rfl
theorem th4 : Tq 4 = some ⟨1, false, .bool, [.bool false], none⟩ := by kernel_rfl
theorem th5 : Tq 5 = some ⟨1, false, .int .u8, [.int .u8 0], none⟩ := by kernel_rfl
theorem th9 : Tq 9 = some ⟨1, false, .str, [.str ⟨#[]⟩], none⟩ := by kernel_rfl
theorem th12 : Tq 12 = some ⟨1, false, .int .u64, [.int .u64 0], none⟩ := by kernel_rfl
theorem th21 : Tq 21 = some ⟨1, false, .int .i32, [.int .i32 0], none⟩ := by kernel_rfl
theorem th22 : Tq 22 = some ⟨1, false, .slice 2 32 [.int .i64 0, .nils], [.nils], none⟩ := by kernel_rfl
theorem th23 : Tq 23 = some ⟨4, true, .struct [(0, 1, false), (1, 1, false), (2, 1, false), (3, 1, false)], [.int .i64 0, .int .i64 0, .int .i64 0, .nils], none⟩ := by kernel_rfl
theorem th24 : Tq 24 = some ⟨4, true, .struct [(0, 1, false), (1, 1, false), (2, 1, false), (3, 1, false)], [.int .i64 0, .int .i64 0, .int .i64 0, .nils], none⟩ := by kernel_rfl
theorem th25 : Tq 25 = some ⟨1, false, .slice 2 16 [.int .i64 0, .int .i64 0], [.nils], none⟩ := by kernel_rfl
theorem th32 : Tq 32 = some ⟨2, true, .struct [(0, 1, false), (1, 1, false)], [.int .i64 0, .int .i64 0], some [.int .i64, .int .i64]⟩ := by kernel_rfl
theorem th33 : Tq 33 = some ⟨2, true, .struct [(0, 1, false), (1, 1, false)], [.int .i64 0, .int .i64 0], some [.int .i64, .int .i64]⟩ := by kernel_rfl
theorem th34 : Tq 34 = some ⟨1, false, .slice 1 1 [.int .u8 0], [.nils], none⟩ := by kernel_rfl
theorem th35 : Tq 35 = some ⟨1, false, .slice 1 8 [.int .i64 0], [.nils], none⟩ := by kernel_rfl
theorem th36 : Tq 36 = some ⟨1, false, .slice 1 24 [.nils], [.nils], none⟩ := by kernel_rfl
theorem th38 : Tq 38 = some ⟨1, false, .slice 1 1 [.bool false], [.nils], none⟩ := by kernel_rfl
theorem th39 : Tq 39 = some ⟨1, false, .slice 1 24 [.nils], [.nils], none⟩ := by kernel_rfl
theorem th42 : Tq 42 = some ⟨1, false, .slice 2 16 [.bool false, .int .i64 0], [.nils], none⟩ := by kernel_rfl
theorem th43 : Tq 43 = some ⟨2, true, .struct [(0, 1, false), (1, 1, false)], [.int .i64 0, .nils], none⟩ := by kernel_rfl
theorem th44 : Tq 44 = some ⟨2, true, .struct [(0, 1, false), (1, 1, false)], [.int .i64 0, .nils], none⟩ := by kernel_rfl
theorem th45 : Tq 45 = some ⟨2, true, .struct [(0, 1, false), (1, 1, false)], [.bool false, .int .i64 0], some [.bool, .int .i64]⟩ := by kernel_rfl
theorem th46 : Tq 46 = some ⟨2, true, .struct [(0, 1, false), (1, 1, false)], [.bool false, .int .i64 0], some [.bool, .int .i64]⟩ := by kernel_rfl
theorem th47 : Tq 47 = some ⟨1, false, .int .u32, [.int .u32 0], none⟩ := by kernel_rfl
theorem th51 : Tq 51 = some ⟨1, false, .slice 1 4 [.int .u32 0], [.nils], none⟩ := by kernel_rfl
theorem th54 : Tq 54 = some ⟨1, false, .slice 32 32 (List.replicate 32 (.bool false)), [.nils], none⟩ := by kernel_rfl
theorem th57 : Tq 57 = some ⟨32, true, .array 32 1 false, (List.replicate 32 (.bool false)), none⟩ := by kernel_rfl
theorem th58 : Tq 58 = some ⟨32, true, .array 32 1 false, (List.replicate 32 (.bool false)), none⟩ := by kernel_rfl
theorem th62 : Tq 62 = some ⟨1, false, .int .u64, [.int .u64 0], none⟩ := by kernel_rfl
theorem th63 : Tq 63 = some ⟨1, false, .int .i64, [.int .i64 0], none⟩ := by kernel_rfl
theorem th66 : Tq 66 = some ⟨1, false, .slice 2 32 [.int .i64 0, .nils], [.nils], none⟩ := by kernel_rfl
theorem th69 : Tq 69 = some ⟨1, false, .slice 2 32 [.int .i64 0, .nils], [.nils], none⟩ := by kernel_rfl
theorem th79 : Tq 79 = some ⟨1, false, .slice 2 16 [.int .i64 0, .int .i64 0], [.nils], none⟩ := by kernel_rfl
theorem th83 : Tq 83 = some ⟨1, false, .slice 25 100 (List.replicate 25 (.int .u32 0)), [.nils], none⟩ := by kernel_rfl
theorem th85 : Tq 85 = some ⟨1, false, .slice 25 100 (List.replicate 25 (.int .u32 0)), [.nils], none⟩ := by kernel_rfl
theorem th88 : Tq 88 = some ⟨24, true, .array 24 1 false, (List.replicate 24 (.int .u32 0)), none⟩ := by kernel_rfl
theorem th89 : Tq 89 = some ⟨25, true, .struct [(0, 24, true), (24, 1, false)], (List.replicate 25 (.int .u32 0)), some (List.replicate 25 (.int .u32))⟩ := by kernel_rfl
theorem th90 : Tq 90 = some ⟨25, true, .struct [(0, 24, true), (24, 1, false)], (List.replicate 25 (.int .u32 0)), some (List.replicate 25 (.int .u32))⟩ := by kernel_rfl
theorem th98 : Tq 98 = some ⟨1, false, .slice 1 24 [.nils], [.nils], none⟩ := by kernel_rfl
theorem th106 : Tq 106 = some ⟨1, false, .slice 4 24 [.int .i64 0, .int .i64 0, .int .u32 0, .bool false], [.nils], none⟩ := by kernel_rfl
theorem th108 : Tq 108 = some ⟨4, true, .struct [(0, 1, false), (1, 1, false), (2, 1, false), (3, 1, false)], [.int .i64 0, .int .i64 0, .int .u32 0, .bool false], some [.int .i64, .int .i64, .int .u32, .bool]⟩ := by kernel_rfl
theorem th109 : Tq 109 = some ⟨4, true, .struct [(0, 1, false), (1, 1, false), (2, 1, false), (3, 1, false)], [.int .i64 0, .int .i64 0, .int .u32 0, .bool false], some [.int .i64, .int .i64, .int .u32, .bool]⟩ := by kernel_rfl
theorem th110 : Tq 110 = some ⟨2, true, .struct [(0, 1, false), (1, 1, false)], [.int .i64 0, .nils], none⟩ := by kernel_rfl
theorem th111 : Tq 111 = some ⟨2, true, .struct [(0, 1, false), (1, 1, false)], [.int .i64 0, .nils], none⟩ := by kernel_rfl
theorem th112 : Tq 112 = some ⟨1, false, .plain, [.nilp], none⟩ := by kernel_rfl
theorem th115 : Tq 115 = some ⟨1, false, .slice 4 32 [.bool false, .int .i64 0, .int .i64 0, .bool false], [.nils], none⟩ := by kernel_rfl
theorem th116 : Tq 116 = some ⟨1, true, .struct [(0, 1, false)], [.nils], none⟩ := by kernel_rfl
theorem th117 : Tq 117 = some ⟨1, true, .struct [(0, 1, false)], [.nils], none⟩ := by kernel_rfl
theorem th118 : Tq 118 = some ⟨7, true, .struct [(0, 4, true), (4, 1, true), (5, 1, false), (6, 1, false)], [.int .i64 0, .int .i64 0, .int .i64 0, .nils, .nils, .nils, .nils], none⟩ := by kernel_rfl
theorem th119 : Tq 119 = some ⟨7, true, .struct [(0, 4, true), (4, 1, true), (5, 1, false), (6, 1, false)], [.int .i64 0, .int .i64 0, .int .i64 0, .nils, .nils, .nils, .nils], none⟩ := by kernel_rfl
theorem th122 : Tq 122 = some ⟨2, true, .struct [(0, 1, false), (1, 1, false)], [.int .i64 0, .nils], none⟩ := by kernel_rfl
theorem th127 : Tq 127 = some ⟨1, false, .slice 2 16 [.int .i64 0, .int .i64 0], [.nils], none⟩ := by kernel_rfl
theorem th129 : Tq 129 = some ⟨1, false, .map [.int .i64, .int .i64] (.agg [.int .i64 0, .int .i64 0]), [.nilm], none⟩ := by kernel_rfl
theorem th133 : Tq 133 = some ⟨2, true, .struct [(0, 1, false), (1, 1, false)], [.int .i64 0, .int .i64 0], some [.int .i64, .int .i64]⟩ := by kernel_rfl
theorem th134 : Tq 134 = some ⟨2, true, .struct [(0, 1, false), (1, 1, false)], [.int .i64 0, .int .i64 0], some [.int .i64, .int .i64]⟩ := by kernel_rfl
theorem th137 : Tq 137 = some ⟨2, true, .struct [(0, 1, false), (1, 1, false)], [.int .i64 0, .int .i64 0], some [.int .i64, .int .i64]⟩ := by kernel_rfl
theorem th138 : Tq 138 = some ⟨2, true, .struct [(0, 1, false), (1, 1, false)], [.int .i64 0, .int .i64 0], some [.int .i64, .int .i64]⟩ := by kernel_rfl
theorem th140 : Tq 140 = some ⟨25, true, .struct [(0, 24, true), (24, 1, false)], (List.replicate 25 (.int .u32 0)), some (List.replicate 25 (.int .u32))⟩ := by kernel_rfl
theorem th145 : Tq 145 = some ⟨1, false, .plain, [.nilp], none⟩ := by kernel_rfl
theorem th146 : Tq 146 = some ⟨1, false, .slice 3 24 [.bool false, .int .i64 0, .int .u32 0], [.nils], none⟩ := by kernel_rfl
theorem th147 : Tq 147 = some ⟨10, true, .struct [(0, 4, true), (4, 1, false), (5, 1, false), (6, 1, false), (7, 1, false), (8, 1, false), (9, 1, false)], [.int .i64 0, .int .i64 0, .int .i64 0, .nils, .nils, .nils, .int .i64 0, .nils, .int .i64 0, .nils], none⟩ := by kernel_rfl
theorem th148 : Tq 148 = some ⟨10, true, .struct [(0, 4, true), (4, 1, false), (5, 1, false), (6, 1, false), (7, 1, false), (8, 1, false), (9, 1, false)], [.int .i64 0, .int .i64 0, .int .i64 0, .nils, .nils, .nils, .int .i64 0, .nils, .int .i64 0, .nils], none⟩ := by kernel_rfl
theorem th151 : Tq 151 = some ⟨3, true, .struct [(0, 2, true), (2, 1, false)], [.bool false, .int .i64 0, .int .u32 0], none⟩ := by kernel_rfl
theorem th152 : Tq 152 = some ⟨3, true, .struct [(0, 2, true), (2, 1, false)], [.bool false, .int .i64 0, .int .u32 0], none⟩ := by kernel_rfl
theorem th162 : Tq 162 = some ⟨4, true, .struct [(0, 2, true), (2, 1, false), (3, 1, false)], [.bool false, .int .i64 0, .int .i64 0, .bool false], none⟩ := by kernel_rfl
theorem th163 : Tq 163 = some ⟨4, true, .struct [(0, 2, true), (2, 1, false), (3, 1, false)], [.bool false, .int .i64 0, .int .i64 0, .bool false], none⟩ := by kernel_rfl
theorem th169 : Tq 169 = some ⟨1, false, .slice 1 24 [.nils], [.nils], none⟩ := by kernel_rfl
theorem th170 : Tq 170 = some ⟨2, true, .struct [(0, 1, false), (1, 1, false)], [.int .i64 0, .int .i64 0], some [.int .i64, .int .i64]⟩ := by kernel_rfl
theorem th180 : Tq 180 = some ⟨1, false, .plain, [.nilp], none⟩ := by kernel_rfl
theorem th187 : Tq 187 = some ⟨1, false, .plain, [.nilp], none⟩ := by kernel_rfl
theorem th190 : Tq 190 = some ⟨4, true, .struct [(0, 1, false), (1, 1, false), (2, 1, false), (3, 1, false)], [.nilp, .nilp, .nilp, .str ⟨#[]⟩], none⟩ := by kernel_rfl
attribute [go_sem] th2 th3 th4 th5 th9 th12 th21 th22 th23 th24 th25 th32 th33 th34 th35 th36 th38 th39 th42 th43 th44 th45 th46 th47 th51 th54 th57 th58 th62 th63 th66 th69 th79 th83 th85 th88 th89 th90 th98 th106 th108 th109 th110 th111 th112 th115 th116 th117 th118 th119 th122 th127 th129 th133 th134 th137 th138 th140 th145 th146 th147 th148 th151 th152 th162 th163 th169 th170 th180 th187 th190

theorem tabOK : TabOK pg Tq := mk_ok
theorem mixed : pg.follows .mixedOrders = true := by kernel_rfl

/-- A symbol, a production, a grammar. -/
structure Sy where
  non : Bool
  n : Int
  deriving DecidableEq

structure Pr where
  left : Int
  right : List Sy
  deriving DecidableEq

structure Gr where
  terms : Int
  nons : Int
  start : Int
  prods : List Pr
  deriving DecidableEq

abbrev Fc := Int × Int

def eSy (s : Sy) : List AV := [.bool s.non, .int .i64 s.n]
def ePr (p : Pr) : List AV := [.int .i64 p.left, .ro (p.right.map eSy)]
def eGr (g : Gr) : List AV := [.int .i64 g.terms, .int .i64 g.nons, .int .i64 g.start, .ro (g.prods.map ePr)]
def eFc (f : Fc) : List AV := [.int .i64 f.1, .int .i64 f.2]
def eIn (n : Int) : List AV := [.int .i64 n]
def eBo (b : Bool) : List AV := [.bool b]

attribute [go_sem] eSy ePr eGr eFc eIn eBo

/-- Lengths that may be. -/
def Gr.Small (g : Gr) : Prop := g.prods.length < 2 ^ 60 ∧ ∀ p ∈ g.prods, p.right.length < 2 ^ 60

theorem Fb {f : FuncId} {args : List AV} {b : Bool} (h : FH pg Tq f args h0 0 fun r _ _ => r = .bool b) : PF pg Tq f args (.bool b) := by
  obtain ⟨r, h', n', hb, rfl⟩ := h
  exact ⟨_, h', n', hb, 1, fun _ => rfl⟩

theorem Fi {f : FuncId} {args : List AV} {k : IntKind} {n : Int} (h : FH pg Tq f args h0 0 fun r _ _ => r = .int k n) : PF pg Tq f args (.int k n) := by
  obtain ⟨r, h', n', hb, rfl⟩ := h
  exact ⟨_, h', n', hb, 1, fun _ => rfl⟩

theorem get_some {α : Type} {l : List α} {k : Nat} (h : k < l.length) : ∃ x, l[k]? = some x := ⟨l[k], by simp [h]⟩

theorem W.of {P : Program} {Θ : Tab} {N : Nat} {c : Code} {t : Fr} {h : Heap} {n : Nat} {Q Q' : AEx → Fr → Heap → Nat → Prop} (e : Q = Q') (hw : W P Θ N c t h n Q') : W P Θ N c t h n Q := e ▸ hw

end Go.Av
