/-
  Rows of numbers in live blocks. Conditions: none.
-/
import Derived.Test.YtiiogleijmcccaaS4
import Derived.Test.YtiiogleijmcccaaD1
namespace Go.Av
open Go.Proofs
set_option maxRecDepth 100000
set_option linter.unusedSimpArgs false
set_option linter.unusedVariables false

theorem VCall.frz' {P : Program} {Θ : Tab} {s : Nat} {g : FuncId} {args as' : List AV} {h : Heap} {x : Nat} {k : Cls → AV → Heap → Nat → Prop} {res : AV} (d : Nat) (hr : rfs true d h0 args = some as') (hf : PF P Θ g as' res) (hk : k .L res h x) : VCall P Θ s g args h x k := by
  obtain ⟨r, h', n', hb, d', hR⟩ := hf
  exact .inr (.inl ⟨false, d, d', _, r, res, h', n', hr, hb, hR _, hk⟩)

/-- Numbers in a live block from lo on; or none. -/
def IntL (h : Heap) (lo n : Nat) (v : AV) (l : List Int) : Prop := (l = [] ∧ v = .nils) ∨ ∃ b, v = .sl b 0 l.length 1 ∧ lo ≤ b ∧ b < n ∧ h b = some (.cells (l.map eIn))

theorem IntL.next {h h' : Heap} {lo n n' : Nat} {v v' : AV} {l : List Int} (c : IntL h lo n v l) (hv : v' = v) (hh : ∀ x, lo ≤ x → x < n → h' x = h x) (hn : n ≤ n') : IntL h' lo n' v' l := by
  subst hv
  rcases c with c | ⟨b, c1, c2, c3, c4⟩
  · exact .inl c
  · exact .inr ⟨b, c1, c2, by omega, (hh b c2 c3).trans c4⟩

theorem rfe_in {fr : Bool} {d : Nat} {h : Heap} {l : List Int} : rfe fr (d + 3) h (l.map eIn) = some (l.map eIn) := rfe_map fun x _ => by simp [rfs, rf, eIn]

theorem IntL.frz {fr : Bool} {h : Heap} {lo n d : Nat} {v : AV} {l : List Int} (c : IntL h lo n v l) : rf fr (d + 4) h v = some (.ro (l.map eIn)) := by
  rcases c with ⟨rfl, rfl⟩ | ⟨b, rfl, _, _, c⟩
  · simp [rf]
  · exact rf_sla c (by simp) rfe_in

end Go.Av

