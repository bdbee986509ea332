/-
  Layer 16, the document's answer: the wild grammar, walked. Conditions: none.
-/
import Derived.Test.YtiiogleijmcccaaY1
namespace Go.Av
open Go.Proofs
set_option maxRecDepth 100000
set_option linter.unusedSimpArgs false
set_option linter.unusedVariables false

/-- A production, and the value that stands for its right side. -/
def ePv (x : Pr × AV) : List AV := [.int .i64 x.1.left, x.2]

/-- A right side: frozen, or in a block of its own. -/
def Rv (h : Heap) (n B : Nat) (v : AV) (r : List Sy) : Prop := v = .ro (r.map eSy) ∨ (SlL eSy 2 h (B + 1) n v r)

theorem Rv.next {h h' : Heap} {n n' B : Nat} {v : AV} {r : List Sy} (s : Rv h n B v r) (hh : ∀ x, B < x → x < n → h' x = h x) (hn : n ≤ n') : Rv h' n' B v r := by
  rcases s with s | s
  · exact .inl s
  · exact .inr (s.next rfl (fun x h1 h2 => hh x (by omega) h2) hn (Nat.le_refl _))

theorem Rv.frz {h : Heap} {n B d : Nat} {v : AV} {r : List Sy} (s : Rv h n B v r) : rf true (d + 4) h v = some (.ro (r.map eSy)) := by
  rcases s with rfl | s
  · simp [rf]
  · exact s.frz (d := d + 2) fun x _ => by simp [rfs, rf, eSy]

/-- The table of productions. -/
structure WT (h : Heap) (n B bp : Nat) (pv : List (Pr × AV)) : Prop where
  cells : h bp = some (.cells (pv.map ePv))
  lo : 1 < bp
  neB : bp ≠ B
  hi : bp < n
  ne : pv ≠ []
  rights : ∀ x ∈ pv, Rv h n B x.2 x.1.right

theorem pv_ne {pv : List (Pr × AV)} (hn : pv ≠ []) {r : List Sy} : pv.map ePv ≠ r.map eSy := by
  cases pv with
  | nil => exact absurd rfl hn
  | cons x pv =>
    cases r with
    | nil => intro e; cases e
    | cons s r =>
      intro e
      simp only [List.map_cons, List.cons.injEq, ePv, eSy] at e
      exact absurd e.1.1 (by simp)

/-- The heap changes, but for what the table holds. -/
theorem Rv.frame {h h' : Heap} {n n' B bp : Nat} {v : AV} {r : List Sy} {pv : List (Pr × AV)} (s : Rv h n B v r) (hc : h bp = some (.cells (pv.map ePv))) (hp : pv ≠ []) (hh : ∀ x, B < x → x < n → x ≠ bp → h' x = h x) (hn : n ≤ n') : Rv h' n' B v r := by
  rcases s with s | s | ⟨b, h1, h2, h3, h4⟩
  · exact .inl s
  · exact .inr (.inl s)
  · have hb : b ≠ bp := fun e => by
      rw [e, hc] at h4
      have : pv.map ePv = r.map eSy := by injection h4 with h5; injection h5
      exact pv_ne hp this
    exact .inr (.inr ⟨b, h1, h2, by omega, by rw [hh b (by omega) h3 hb]; exact h4⟩)

theorem WT.next {h h' : Heap} {n n' B bp : Nat} {pv : List (Pr × AV)} (s : WT h n B bp pv) (hB : 1 < B) (hh : ∀ x, 1 < x → x < n → x ≠ B → h' x = h x) (hn : n ≤ n') : WT h' n' B bp pv :=
  ⟨by rw [hh bp s.lo s.hi s.neB]; exact s.cells, s.lo, s.neB, by have := s.hi; omega, s.ne, fun x hx => (s.rights x hx).next (fun y h1 h2 => hh y (by omega) h2 (by omega)) hn⟩

/-- One more. -/
theorem WT.snoc {h h' : Heap} {n n' B bp bp' : Nat} {pv : List (Pr × AV)} {x : Pr × AV} (s : WT h n B bp pv) (hB : 1 < B) (hh : ∀ y, 1 < y → y < n → y ≠ B → y ≠ bp → h' y = h y) (hn : n ≤ n') (hc : h' bp' = some (.cells ((pv ++ [x]).map ePv))) (h1 : 1 < bp') (h2 : bp' ≠ B) (h3 : bp' < n') (hx : Rv h' n' B x.2 x.1.right) : WT h' n' B bp' (pv ++ [x]) := by
  refine ⟨hc, h1, h2, h3, by simp, fun y hy => ?_⟩
  rcases List.mem_append.1 hy with hy | hy
  · exact (s.rights y hy).frame s.cells s.ne (fun z q1 q2 q3 => hh z (by omega) q2 (by omega) q3) hn
  · rw [List.mem_singleton.1 hy]; exact hx

end Go.Av

